/- What stands under the walks, part E. -/
import Derived.Test.YtdkcnigghcbnpaaGreatImgA
import Derived.Test.YtdkcnigghcbnpaaGreatWriteN
import Derived.Test.YtdkcnigghcbnpaaGreatImgB
import Derived.Defers
import Derived.Recover
/- image.Encode: the writer's state, step by step. -/
namespace Go.Proofs.YtdkcnigghcbnpaaGreat
set_option linter.unusedVariables false
set_option linter.unusedSimpArgs false
open Go.RowKit Go.MapKept

/-- A writer at block wb has L; since w1 only blocks above ib were written to. -/
structure WS (w1 : World) (ib wb : Nat) (L : List UInt8) (w : World) : Prop where
  ex : ∃ sv, WrAt w wb sv L ∧ ∀ b, sv.ownBlock = some b → ib < b
  k : Kept (fun b => ib < b) w1 w
  wb : ib < wb
  ib : ib < w1.heap.size
section
variable {w1 w w' : World} {ib wb : Nat} {L : List UInt8}
theorem WS.lt (h : WS w1 ib wb L w) : wb < w.heap.size := by
  obtain ⟨sv, h1, -⟩ := h.ex
  exact h1.row.lt
theorem WS.keep (h : WS w1 ib wb L w) (q : Kept (fun _ => False) w w') : WS w1 ib wb L w' := by
  obtain ⟨sv, h1, h2⟩ := h.ex
  exact ⟨⟨sv, h1.kept q (fun e => e) (fun _ _ e => e), h2⟩, h.k.trans q (fun _ _ e => e.elim), h.wb, h.ib⟩
/-- What was there is there. -/
theorem WS.cell (h : WS w1 ib wb L w) {b o : Nat} {v : Value} (hb : b ≤ ib) (hc : w1.cell? ⟨b, o, none⟩ = some v) : w.cell? ⟨b, o, none⟩ = some v :=
  (h.k.cell (p := ⟨b, o, none⟩) (Nat.lt_of_le_of_lt hb h.ib) (Nat.not_lt.2 hb)).trans hc
/-- A block that is not the writer's. -/
def Free (w : World) (wb pb : Nat) : Prop := pb < w.heap.size ∧ pb ≠ wb ∧ ∀ sv, w.cell? ⟨wb, 0, none⟩ = some sv → sv.ownBlock ≠ some pb
theorem Free.keep {pb : Nat} (h : Free w wb pb) (q : Kept (fun _ => False) w w') (hwb : wb < w.heap.size) : Free w' wb pb ∧ ∀ o, w'.cell? ⟨pb, o, none⟩ = w.cell? ⟨pb, o, none⟩ :=
  ⟨⟨Nat.lt_of_lt_of_le h.1 q.size, h.2.1, fun sv e => h.2.2 sv ((q.cell (p := ⟨wb, 0, none⟩) hwb (fun e => e)).symm.trans e)⟩, fun o => q.cell (p := ⟨pb, o, none⟩) h.1 (fun e => e)⟩
theorem WS.free (h : WS w1 ib wb L w) (o : Obj) : Free (w.alloc o) wb w.heap.size := by
  obtain ⟨sv0, h1, h2⟩ := h.ex
  refine ⟨by simp, by have := h1.row.lt; omega, fun sv e e2 => ?_⟩
  have e3 := ((Kept.one_alloc w o).cell (p := ⟨wb, 0, none⟩) h1.row.lt (fun e => e)).trans h1.c
  rw [e3] at e
  cases e
  have := (h1.own.lt _ e2).2
  omega
theorem free_step {sv sv' : Value} {L' : List UInt8} (h1 : WrAt w wb sv L) (h3 : WrAt w' wb sv' L') (k : Kept (fun b => b = wb ∨ sv.ownBlock = some b) w w') (h4 : ∀ b, sv'.ownBlock = some b → sv.ownBlock = some b ∨ w.heap.size ≤ b) : ∀ pb, Free w wb pb → Free w' wb pb ∧ ∀ o, w'.cell? ⟨pb, o, none⟩ = w.cell? ⟨pb, o, none⟩ := fun pb h => by
  refine ⟨⟨Nat.lt_of_lt_of_le h.1 k.size, h.2.1, fun s e e2 => ?_⟩, fun o => k.cell (p := ⟨pb, o, none⟩) h.1 (fun e => e.elim h.2.1 (fun e => h.2.2 sv h1.c e))⟩
  rw [h3.c] at e
  cases e
  rcases h4 pb e2 with h5 | h5
  · exact h.2.2 sv h1.c h5
  · have := h.1
    omega
theorem ws_numbers (h : WS w1 ib wb L w) {n c : Nat} {a : Option Addr} {z : Nat → Nat} (hz : ∀ sv, WrAt w wb sv L → (∀ b, sv.ownBlock = some b → b < w.heap.size) → IntsAt w a n z (fun b => b = wb ∨ sv.ownBlock = some b)) (hzs : ∀ i, i < n → z i < 4294967296) (hn : n ≤ 100) (hL : L.length ≤ 2000000) :
    Calls Tryz.prog 54 #[.pointer (some ⟨wb, 0, none⟩), .slice a n c] w fun e w' => e = .returned (.tuple #[]) ∧ WS w1 ib wb (L ++ numsL n z) w' ∧ ∀ pb, Free w wb pb → Free w' wb pb ∧ ∀ o, w'.cell? ⟨pb, o, none⟩ = w.cell? ⟨pb, o, none⟩ := by
  obtain ⟨sv, h1, h2⟩ := h.ex
  refine (numbers_any h1 (hz sv h1 (fun b e => (h1.own.lt b e).2)) hzs hn (by omega)).mono ?_
  rintro e w' ⟨rfl, sv', h3, k, h4⟩
  refine ⟨rfl, ⟨⟨sv', h3, fun b e => ?_⟩, h.k.trans k (fun b _ e => e.elim (fun e => e ▸ h.wb) (h2 b)), h.wb, h.ib⟩, free_step h1 h3 k h4⟩
  rcases h4 b e with h5 | h5
  · exact h2 b h5
  · have := h.k.size
    have := h.ib
    omega
theorem mem1 {α : Type} {p : α → Prop} {a : α} (h : p a) : ∀ z ∈ [a], p z := fun z hz => by
  rcases List.mem_cons.1 hz with rfl | hz
  · exact h
  · cases hz
theorem mem2 {α : Type} {p : α → Prop} {a b : α} (h : p a) (h2 : p b) : ∀ z ∈ [a, b], p z := fun z hz => by
  rcases List.mem_cons.1 hz with rfl | hz
  · exact h
  · exact mem1 h2 z hz
theorem mem4 {α : Type} {p : α → Prop} {a b c d : α} (h : p a) (h2 : p b) (h3 : p c) (h4 : p d) : ∀ z ∈ [a, b, c, d], p z := fun z hz => by
  rcases List.mem_cons.1 hz with rfl | hz
  · exact h
  · rcases List.mem_cons.1 hz with rfl | hz
    · exact h2
    · exact mem2 h3 h4 z hz
theorem ws_num (h : WS w1 ib wb L w) {q : Nat} (hq : w.heap.size = q) (zs : List Nat) (cs : List Value) (hcs : cs = zs.map fun z => .int .i64 (z : Int)) (hzs : ∀ z ∈ zs, z < 4294967296) (hn : zs.length ≤ 100) (hL : L.length ≤ 2000000) :
    Calls Tryz.prog 54 #[.pointer (some ⟨wb, 0, none⟩), .slice (some ⟨q, 0, none⟩) zs.length zs.length] (w.alloc (.cells cs.toArray 3)) fun e w' => e = .returned (.tuple #[]) ∧ WS w1 ib wb (L ++ zs.flatMap numL) w' ∧ ∀ pb, Free w wb pb → Free w' wb pb ∧ ∀ o, w'.cell? ⟨pb, o, none⟩ = w.cell? ⟨pb, o, none⟩ := by
  subst hq
  have hk := Kept.one_alloc w (.cells cs.toArray 3)
  have hw := h.keep hk
  have hlt := h.lt
  obtain ⟨sv0, h1, -⟩ := h.ex
  have hnums : zs.flatMap numL = numsL zs.length (fun i => zs.getD i 0) := by
    clear hzs hn hcs
    unfold numsL
    induction zs with
    | nil => rfl
    | cons z zs ih =>
      rw [List.flatMap_cons, List.length_cons, List.range_succ_eq_map, List.flatMap_cons, List.flatMap_map]
      exact congrArg (numL z ++ ·) ih
  rw [hnums]
  refine Calls.mono (ws_numbers hw (fun sv hs hsl i hi => ⟨w.heap.size, 0, rfl, by simp, ?_, fun e => ?_⟩) (fun i hi => ?_) hn hL) (fun e w' ⟨h5, h6, h7⟩ => ⟨h5, h6, fun pb hp => ⟨(h7 pb (hp.keep hk hlt).1).1, fun o => ((h7 pb (hp.keep hk hlt).1).2 o).trans ((hp.keep hk hlt).2 o)⟩⟩)
  · rw [Nat.zero_add, World.cell?_alloc_new w _ _ i, List.getElem?_toArray, hcs, List.getElem?_map, List.getElem?_eq_getElem hi]
    simp [List.getD_eq_getElem?_getD, hi]
  · rcases e with e | e
    · omega
    · have hsv : sv = sv0 := by
        have e1 := hs.c
        have e2 := (hk.cell (p := ⟨wb, 0, none⟩) h1.row.lt (fun e => e)).trans h1.c
        rw [e1] at e2
        exact Option.some.inj e2
      have := (h1.own.lt _ (hsv ▸ e)).2
      omega
  · rw [List.getD_eq_getElem?_getD, List.getElem?_eq_getElem hi]
    exact hzs _ (List.getElem_mem hi)
theorem ws_texts (h : WS w1 ib wb L w) {n c : Nat} {a : Option Addr} {ss : Nat → ByteArray} (hz : ∀ sv, WrAt w wb sv L → TextsAt w a n ss (fun b => b = wb ∨ sv.ownBlock = some b)) (hzs : ∀ i, i < n → (ss i).size ≤ 100000) (hn : n ≤ 100) (hL : L.length ≤ 2000000) :
    Calls Tryz.prog 55 #[.pointer (some ⟨wb, 0, none⟩), .slice a n c] w fun e w' => e = .returned (.tuple #[]) ∧ WS w1 ib wb (L ++ textsL n ss) w' ∧ ∀ pb, Free w wb pb → Free w' wb pb ∧ ∀ o, w'.cell? ⟨pb, o, none⟩ = w.cell? ⟨pb, o, none⟩ := by
  obtain ⟨sv, h1, h2⟩ := h.ex
  refine (texts_any h1 (hz sv h1) hzs hn (by omega)).mono ?_
  rintro e w' ⟨rfl, sv', h3, k, h4⟩
  refine ⟨rfl, ⟨⟨sv', h3, fun b e => ?_⟩, h.k.trans k (fun b _ e => e.elim (fun e => e ▸ h.wb) (h2 b)), h.wb, h.ib⟩, free_step h1 h3 k h4⟩
  rcases h4 b e with h5 | h5
  · exact h2 b h5
  · have := h.k.size
    have := h.ib
    omega
theorem texts_flat (l : List ByteArray) : l.flatMap txtL = textsL l.length (fun i => l.getD i ByteArray.empty) := by
  unfold textsL
  induction l with
  | nil => rfl
  | cons z zs ih =>
    rw [List.flatMap_cons, List.length_cons, List.range_succ_eq_map, List.flatMap_cons, List.flatMap_map]
    exact congrArg (txtL z ++ ·) ih
theorem ws_txt (h : WS w1 ib wb L w) {q : Nat} (hq : w.heap.size = q) (zs : List ByteArray) (cs : List Value) (hcs : cs = zs.map Value.string) (hzs : ∀ z ∈ zs, z.size ≤ 100000) (hn : zs.length ≤ 100) (hL : L.length ≤ 2000000) :
    Calls Tryz.prog 55 #[.pointer (some ⟨wb, 0, none⟩), .slice (some ⟨q, 0, none⟩) zs.length zs.length] (w.alloc (.cells cs.toArray 9)) fun e w' => e = .returned (.tuple #[]) ∧ WS w1 ib wb (L ++ zs.flatMap txtL) w' ∧ ∀ pb, Free w wb pb → Free w' wb pb ∧ ∀ o, w'.cell? ⟨pb, o, none⟩ = w.cell? ⟨pb, o, none⟩ := by
  subst hq
  have hk := Kept.one_alloc w (.cells cs.toArray 9)
  have hw := h.keep hk
  have hlt := h.lt
  obtain ⟨sv0, h1, -⟩ := h.ex
  rw [texts_flat]
  refine Calls.mono (ws_texts hw (fun sv hs i hi => ⟨w.heap.size, 0, rfl, by simp, ?_, fun e => ?_⟩) (fun i hi => ?_) hn hL) (fun e w' ⟨h5, h6, h7⟩ => ⟨h5, h6, fun pb hp => ⟨(h7 pb (hp.keep hk hlt).1).1, fun o => ((h7 pb (hp.keep hk hlt).1).2 o).trans ((hp.keep hk hlt).2 o)⟩⟩)
  · rw [Nat.zero_add, World.cell?_alloc_new w _ _ i, List.getElem?_toArray, hcs, List.getElem?_map, List.getElem?_eq_getElem hi]
    simp [List.getD_eq_getElem?_getD, hi]
  · rcases e with e | e
    · omega
    · have hsv : sv = sv0 := by
        have e1 := hs.c
        have e2 := (hk.cell (p := ⟨wb, 0, none⟩) h1.row.lt (fun e => e)).trans h1.c
        rw [e1] at e2
        exact Option.some.inj e2
      have := (h1.own.lt _ (hsv ▸ e)).2
      omega
  · rw [List.getD_eq_getElem?_getD, List.getElem?_eq_getElem hi]
    exact hzs _ (List.getElem_mem hi)
/-- A row of texts that lies below. -/
theorem ws_row (h : WS w1 ib wb L w) {a : Option Addr} {c : Nat} {l : List ByteArray} (hr : RowZ tStr w (fun b => b ≤ ib) a l) (hzs : ∀ z ∈ l, z.size ≤ 100000) (hn : l.length ≤ 100) (hL : L.length ≤ 2000000) :
    Calls Tryz.prog 55 #[.pointer (some ⟨wb, 0, none⟩), .slice a l.length c] w fun e w' => e = .returned (.tuple #[]) ∧ WS w1 ib wb (L ++ l.flatMap txtL) w' ∧ ∀ pb, Free w wb pb → Free w' wb pb ∧ ∀ o, w'.cell? ⟨pb, o, none⟩ = w.cell? ⟨pb, o, none⟩ := by
  obtain ⟨sv0, h1, h2⟩ := h.ex
  rw [texts_flat]
  refine ws_texts h (fun sv hs i hi => ?_) (fun i hi => ?_) hn hL
  · obtain ⟨b, o, e, hb, hz, hc⟩ := hr.str (List.getElem?_eq_getElem hi)
    refine ⟨b, o, e, hb, ?_, fun e => ?_⟩
    · rw [hc]
      simp [List.getD_eq_getElem?_getD, hi]
    · have hsv : sv = sv0 := by
        have e1 := hs.c
        rw [h1.c] at e1
        exact (Option.some.inj e1).symm
      have hz : b ≤ ib := hz
      have := h.wb
      rcases e with e | e
      · omega
      · have := h2 b (hsv ▸ e)
        omega
  · rw [List.getD_eq_getElem?_getD, List.getElem?_eq_getElem hi]
    exact hzs _ (List.getElem_mem hi)
/-- A row of texts below is there still. -/
theorem ws_below {wr wX : World} {L2 : List UInt8} {a : Option Addr} {l : List ByteArray} (hr : RowZ tStr wr (fun b => b < ib) a l) (h1 : WS w1 ib wb L wr) (h2 : WS w1 ib wb L2 wX) : RowZ tStr wX (fun b => b ≤ ib) a l := fun i x hx => by
  obtain ⟨b, o, cs, e, hb, hz, hc, hat⟩ := hr i x hx
  have hz : b < ib := hz
  have hb1 : b < w1.heap.size := Nat.lt_trans hz h1.ib
  refine ⟨b, o, cs, e, Nat.lt_of_lt_of_le hb1 h2.k.size, Nat.le_of_lt hz, fun j v hj => ?_, hat⟩
  exact (h2.k.cell (p := ⟨b, o + i * tStr.k + j, none⟩) hb1 (fun e => by have e : ib < b := e; omega)).trans ((h1.k.cell (p := ⟨b, o + i * tStr.k + j, none⟩) hb1 (fun e => by have e : ib < b := e; omega)).symm.trans (hc j v hj))
theorem bytz_below {wr wX : World} {L2 : List UInt8} {a : Option Addr} {k : ByteArray} (hr : BytZ wr (fun b => b < ib) a k) (h1 : WS w1 ib wb L wr) (h2 : WS w1 ib wb L2 wX) : BytesAt wX a k.size k := by
  refine ⟨hr.1.1, hr.1.2.1, fun i hi => ?_⟩
  obtain ⟨b, o, e, hb, hc⟩ := hr.1.2.2 i hi
  have hz : b < ib := hr.2 b o (by omega) e
  have hb1 : b < w1.heap.size := Nat.lt_trans hz h1.ib
  refine ⟨b, o, e, Nat.lt_of_lt_of_le hb1 h2.k.size, ?_⟩
  exact (h2.k.cell (p := ⟨b, o + i, none⟩) hb1 (fun e => by have e : ib < b := e; omega)).trans ((h1.k.cell (p := ⟨b, o + i, none⟩) hb1 (fun e => by have e : ib < b := e; omega)).symm.trans hc)
theorem txtL_len (s : ByteArray) : (txtL s).length = 4 + s.size := by
  unfold txtL
  rw [List.length_append, numL_len]
  simp
theorem nums_flat_len (zs : List Nat) : (zs.flatMap numL).length = 4 * zs.length := by
  induction zs with
  | nil => rfl
  | cons z zs ih => rw [List.flatMap_cons, List.length_append, ih, numL_len, List.length_cons]; omega
theorem txts_flat_len {l : List ByteArray} {M : Nat} (h : ∀ s ∈ l, s.size ≤ M) : (l.flatMap txtL).length ≤ l.length * (4 + M) := by
  induction l with
  | nil => simp
  | cons z zs ih =>
    have h1 := ih (fun s hs => h s (.tail _ hs))
    have h2 := h z (.head _)
    rw [List.flatMap_cons, List.length_append, txtL_len, List.length_cons, Nat.succ_mul]
    omega
theorem rep_len {α : Type} {A : Codec α} {l : List α} {M : Nat} (h : ∀ x ∈ l, (A.enc x).length ≤ M) : (repE A l).length ≤ l.length * M := by
  unfold repE
  induction l with
  | nil => simp
  | cons z zs ih =>
    have h1 := ih (fun s hs => h s (.tail _ hs))
    have h2 := h z (.head _)
    rw [List.flatMap_cons, List.length_append, List.length_cons, Nat.succ_mul]
    omega
theorem rep_take {α β : Type} {A : Codec β} {f : α → β} {l : List α} {i : Nat} {x : α} (h : l[i]? = some x) : repE A ((l.take (i + 1)).map f) = repE A ((l.take i).map f) ++ A.enc (f x) := by
  obtain ⟨h1, h2⟩ := List.getElem?_eq_some_iff.1 h
  rw [List.take_succ_eq_append_getElem h1, h2, List.map_append]
  unfold repE
  rw [List.flatMap_append]
  simp
/-- How long a program, a map, a link may be. -/
theorem prog_len {p : GP} (h : rightGP p = true) : (cP.enc (natP p)).length ≤ 5000 := by
  obtain ⟨nm, code, maps, ctx, emit⟩ := p
  unfold rightGP at h
  simp only [Bool.and_eq_true, decide_eq_true_eq, inB_iff, List.all_eq_true] at h
  obtain ⟨h1, h2, ⟨h3, h4⟩, ⟨h5, h6⟩, h7, h8⟩ := h
  have e : (cP.enc (natP ⟨nm, code, maps, ctx, emit⟩)).length = (txtL nm).length + ((txtL code).length + ((numL maps.length ++ maps.flatMap txtL).length + (4 + 4))) := by
    show ((txtL nm ++ (txtL code ++ ((numL maps.length ++ maps.flatMap txtL) ++ (numL _ ++ numL _))) : List UInt8)).length = _
    simp only [List.length_append, numL_len]
  have h9 := txts_flat_len (l := maps) (M := 16) (fun s hs => nameB_size (h4 s hs))
  have h10 : maps.length * (4 + 16) ≤ 16 * 20 := Nat.mul_le_mul h3 (Nat.le_refl _)
  have h11 := nameB_size h1
  rw [e, txtL_len, txtL_len, List.length_append, numL_len]
  omega
theorem dump_len {d : GD} (h : d.m.nm.size ≤ 16) (h5 : d.data.size ≤ 5000) : (cD.enc (natD d)).length ≤ 5100 := by
  obtain ⟨⟨nm, kd, ks, vs, mx⟩, data⟩ := d
  have e : (cD.enc (natD ⟨⟨nm, kd, ks, vs, mx⟩, data⟩)).length = (txtL nm).length + (4 + (4 + (4 + (4 + (txtL data).length)))) := by
    show ((txtL nm ++ (numL _ ++ (numL _ ++ (numL _ ++ (numL _ ++ txtL data)))) : List UInt8)).length = _
    simp only [List.length_append, numL_len]
  simp only at h h5
  rw [e, txtL_len, txtL_len]
  omega
theorem link_len {l : GL} (h : rightGL l = true) : (cL.enc (natL l)).length ≤ 100 := by
  obtain ⟨nm, pg, ver⟩ := l
  unfold rightGL at h
  simp only [Bool.and_eq_true] at h
  have h1 := nameB_size h.1
  have h2 := nameB_size h.2.1
  have e : (cL.enc (natL ⟨nm, pg, ver⟩)).length = (txtL nm).length + ((txtL pg).length + 4) := by
    show ((txtL nm ++ (txtL pg ++ numL _) : List UInt8)).length = _
    simp only [List.length_append, numL_len]
  rw [e, txtL_len, txtL_len]
  omega
end
end Go.Proofs.YtdkcnigghcbnpaaGreat

/- image.Encode. -/
namespace Go.Proofs.YtdkcnigghcbnpaaGreat
set_option linter.unusedVariables false
set_option linter.unusedSimpArgs false
open Go.RowKit Go.MapKept

theorem right_all {x : GI} (h : rightGI x = true) : (∀ p ∈ x.P, rightGP p = true) ∧ (∀ p ∈ x.D, rightGD p = true) ∧ (∀ p ∈ x.L, rightGL p = true) := by
  unfold rightGI at h
  simp only [Bool.and_eq_true, decide_eq_true_eq, List.all_eq_true] at h
  exact ⟨h.1.2, h.2.1.2, h.2.2.2⟩
theorem right_nums {p : GP} (h : rightGP p = true) : p.nm.size ≤ 16 ∧ p.code.size ≤ 4096 ∧ p.maps.length ≤ 16 ∧ (∀ s ∈ p.maps, s.size ≤ 16) ∧ (0 ≤ p.ctx ∧ p.ctx ≤ 256) ∧ (0 ≤ p.emit ∧ p.emit ≤ 256) := by
  unfold rightGP at h
  simp only [Bool.and_eq_true, decide_eq_true_eq, inB_iff, List.all_eq_true] at h
  obtain ⟨h1, h2, ⟨h3, h4⟩, h5, h6⟩ := h
  exact ⟨nameB_size h1, h2, h3, fun s hs => nameB_size (h4 s hs), h5, h6⟩
theorem rightGD_nm {d : GD} (h : rightGD d = true) : d.m.nm.size ≤ 16 := nameB_size ((rightB_iff _ _ _ _ _).1 (rightGD_map h).1).1
def EncP (w : World) (x : GI) (e : Ending) (w' : World) : Prop := Kept (fun _ => False) w w' ∧
  ((rightGI x = true ∧ ∃ sv, e = .returned (.tuple #[sv, .int .i64 0]) ∧ w'.ownsRow 0 5 1 sv (encI x).length (u8L (encI x)) ∧ ∀ b, sv.ownBlock = some b → w.heap.size ≤ b) ∨ (rightGI x = false ∧ e = .returned (.tuple #[.slice none 0 0, .int .i64 1])))
set_option maxRecDepth 100000 in
set_option maxHeartbeats 4000000 in
theorem encode_any {w : World} {Z : Nat → Prop} {v : Value} {x : GI} (h : ImgAt w Z v x) (hs : x.small) (hd5 : ∀ d ∈ x.D, d.data.size ≤ 5000) : Calls Tryz.prog 34 #[v] w (EncP w x) := by
  have H0 := h
  obtain ⟨pa, pc, da, dc, la, lc, rfl, h1, h2, h3, z1, z2, z3⟩ := h
  have RT := Lib.hid (fun (w1 : World) (k : Kept (fun _ => False) w w1) => imgright_any (H0.keep k) hs)
  have RP := Lib.hid (z1.mono (Z' := fun b => b < w.heap.size) (fun b hb _ => hb))
  have RDm := Lib.hid (z2.mono (Z' := fun b => b < w.heap.size) (fun b hb _ => hb))
  have RL := Lib.hid (z3.mono (Z' := fun b => b < w.heap.size) (fun b hb _ => hb))
  have HD5 := Lib.hid hd5
  clear H0 h1 h2 h3 z1 z2 z3 hs hd5
  obtain ⟨n1, hn1⟩ : ∃ n1, x.P.length = n1 := ⟨_, rfl⟩
  obtain ⟨n2, hn2⟩ : ∃ n2, x.D.length = n2 := ⟨_, rfl⟩
  obtain ⟨n3, hn3⟩ : ∃ n3, x.L.length = n3 := ⟨_, rfl⟩
  rw [hn1, hn2, hn3] at RT ⊢
  have HN := Lib.hid (And.intro hn1 (And.intro hn2 hn3))
  obtain ⟨ib, hib⟩ : ∃ ib, w.heap.size = ib := ⟨_, rfl⟩
  have HIB := Lib.hid hib
  clear hn1 hn2 hn3
  go_enter Tryz.func34, Tryz.ntmps34
  go_wp2_with fail
  have kq := Kept.one_alloc w (.cells #[.slice pa n1 pc, .slice da n2 dc, .slice la n3 lc] 75)
  refine (RT.out _ kq).mono ?_
  rintro e w1 ⟨rfl, k1⟩
  have c0 : w1.cell? ⟨ib, 0, none⟩ = some (.slice pa n1 pc) := by rw [← hib]; exact (k1.cell (p := ⟨w.heap.size, 0, none⟩) (by simp) (fun e => e)).trans (by simp)
  have c1 : w1.cell? ⟨ib, 1, none⟩ = some (.slice da n2 dc) := by rw [← hib]; exact (k1.cell (p := ⟨w.heap.size, 1, none⟩) (by simp) (fun e => e)).trans (by simp)
  have c2 : w1.cell? ⟨ib, 2, none⟩ = some (.slice la n3 lc) := by rw [← hib]; exact (k1.cell (p := ⟨w.heap.size, 2, none⟩) (by simp) (fun e => e)).trans (by simp)
  have hzi : ib < w1.heap.size := by rw [← hib]; exact Nat.lt_of_lt_of_le (by simp) k1.size
  have K1 := Lib.hid (kq.trans k1 (fun _ _ e => e))
  clear k1 kq RT hib
  obtain ⟨rt, hrt⟩ : ∃ rt, rightGI x = rt := ⟨_, rfl⟩
  rw [hrt]
  have HRT := Lib.hid hrt
  clear hrt
  cases rt
  · go_wp2_with fail
    go_ret2
    exact ⟨K1.out, .inr ⟨HRT.out, rfl⟩⟩
  obtain ⟨wb, hwb⟩ : ∃ wb, w1.heap.size = wb := ⟨_, rfl⟩
  have hws : WS w1 ib wb [] (w1.alloc (.cells #[.slice none 0 0] 136)) := by
    have hb := Box.new w1 (.slice none 0 0) 136
    rw [hwb] at hb
    exact ⟨⟨.slice none 0 0, ⟨hb.row, hb.cell, World.ownsRow_nil _ _ _ _, fun b e => (by cases e)⟩, fun b e => (by cases e)⟩, (Kept.one_alloc _ _).mono (fun _ _ e => e.elim), by omega, hzi⟩
  have C := Lib.hid (And.intro c0 (And.intro c1 c2))
  have LEN := Lib.hid (show n1 ≤ 64 ∧ n2 ≤ 64 ∧ n3 ≤ 64 from by
    obtain ⟨e1, e2, e3⟩ := HN.out
    have h := HRT.out
    unfold rightGI at h
    simp only [Bool.and_eq_true, decide_eq_true_eq] at h
    omega)
  have W0 := Lib.hid hws
  have hiw : ib < wb := by omega
  have hne1 : ¬ ib = wb := by omega
  clear hws
  go_wp2_with fail
  refine (ws_num W0.out (q := wb + 1) (by simp [hwb]) [721, n1] [.int .i64 721, .int .i64 (n1 : Int)] rfl (mem2 (p := fun z => z < 4294967296) (by decide) (by have := LEN.out; omega)) (by simp) (by simp)).mono ?_
  rintro e wX ⟨rfl, hws, -⟩
  have WX := Lib.hid hws
  have a0 := hws.cell (Nat.le_refl ib) C.out.1
  clear hws c0 c1 c2 hwb
  obtain ⟨LA, hLA⟩ : ∃ LA, ([] ++ [721, n1].flatMap numL : List UInt8) = LA := ⟨_, rfl⟩
  rw [hLA] at WX
  have HLA := Lib.hid hLA
  have HLA8 := Lib.hid (show LA.length ≤ 8 from by rw [← hLA]; exact Nat.le_refl 8)
  have RI := Lib.hid (right_all HRT.out)
  clear hLA
  have HLLA := HLA8
  go_wp2_with fail
  clear a0
  go_loopw [6, 25] (fun s6 s25 wr => ∃ i : Nat, i ≤ n1 ∧ s25 = .int .i64 (i : Int) ∧ WS w1 ib wb (LA ++ repE cP ((x.P.take i).map natP)) wr) (fun _ s25 _ => n1 - (intOf s25).toNat)
  case atStart => exact ⟨0, Nat.zero_le _, rfl, by simpa [repE] using WX.out⟩
  case' round =>
    obtain ⟨i, hi, rfl, hws⟩ := hrel
    have hz0 := hws.lt
    have WR := Lib.hid hws
    clear hws
  by_cases hlt : i < n1
  · have hin : (i : Int) < (n1 : Int) := by omega
    obtain ⟨p, hp⟩ : ∃ p, x.P[i]? = some p := ⟨_, List.getElem?_eq_getElem (by rw [HN.out.1]; exact hlt)⟩
    have hrow : RowZ tProg wr (fun b => b < w.heap.size) pa x.P := (RP.out.keep K1.out).kept WR.out.k (fun b _ hz e => by have := HIB.out; have hz : b < w.heap.size := hz; omega)
    obtain ⟨b, o, ca, cc, ma, mc, rfl, hb, -, hcc, hmc, hcz, hmz, d0, d1, d2, d3, d4⟩ := hrow.prog hp
    have hrt := RI.out.1 _ (List.mem_of_getElem? hp)
    have hLl : (LA ++ repE cP ((x.P.take i).map natP)).length ≤ 320008 := by
      have h1 := rep_len (A := cP) (l := (x.P.take i).map natP) (M := 5000) (fun y hy => by
        obtain ⟨z, hz, rfl⟩ := List.mem_map.1 hy
        exact prog_len (RI.out.1 _ (List.mem_of_mem_take hz)))
      have h2 : ((x.P.take i).map natP).length ≤ 64 := by rw [List.length_map, List.length_take]; have := LEN.out; have := HN.out; omega
      have h3 : ((x.P.take i).map natP).length * 5000 ≤ 64 * 5000 := Nat.mul_le_mul h2 (Nat.le_refl _)
      have h4 := HLLA.out
      rw [List.length_append]
      omega
    have HLl := Lib.hid hLl
    clear hLl hrow
    have HP := Lib.hid (And.intro hp (And.intro hrt (And.intro hcc (And.intro hmc (And.intro hcz hmz)))))
    clear hp hcc hmc hcz hmz hrt
    obtain ⟨nm, code, maps, ctx, emit⟩ := p
    simp only at d0 d1 d2 d3 d4
    obtain ⟨nc, hnc⟩ : ∃ nc, code.size = nc := ⟨_, rfl⟩
    obtain ⟨nm', hnm⟩ : ∃ nm', maps.length = nm' := ⟨_, rfl⟩
    rw [hnc] at d1
    rw [hnm] at d2
    have HNC := Lib.hid (And.intro hnc hnm)
    clear hnc hnm
    go_upto_region 8 with fail
    obtain ⟨pb, hpb⟩ : ∃ pb, wr.heap.size = pb := ⟨_, rfl⟩
    obtain ⟨wX, hwX⟩ : ∃ wX, wr.alloc (.cells #[.string nm, .slice ca nc cc, .slice ma nm' mc, .int .i64 ctx, .int .i64 emit] 99) = wX := ⟨_, rfl⟩
    have kq := Kept.one_alloc wr (.cells #[.string nm, .slice ca nc cc, .slice ma nm' mc, .int .i64 ctx, .int .i64 emit] 99)
    have FA := Lib.hid (WR.out.free (.cells #[.string nm, .slice ca nc cc, .slice ma nm' mc, .int .i64 ctx, .int .i64 emit] 99))
    have WA := Lib.hid (WR.out.keep kq)
    have hcel := fun i => World.cell?_alloc_new wr #[.string nm, .slice ca nc cc, .slice ma nm' mc, .int .i64 ctx, .int .i64 emit] 99 i
    have hbz := (HP.out.2.2.2.2.1.kept kq (fun _ _ _ e => e)).1
    rw [hpb] at FA hcel ⊢
    rw [hwX] at FA WA hcel hbz ⊢
    have e0 := hcel 0
    have e1 := hcel 1
    have e2 := hcel 2
    have e3 := hcel 3
    have e4 := hcel 4
    simp at e0 e1 e2 e3 e4
    have hcv := hbz.conv (c := cc)
    try simp only at hcv
    rw [HNC.out.1] at hcv
    have HCX := Lib.hid (right_nums HP.out.2.1)
    have KX := Lib.hid (And.intro hpb hz0)
    clear hpb hwX kq hcel hbz d0 d1 d2 d3 d4 hz0
    go_wp2_with fail
    refine (ws_txt WA.out (q := wX.heap.size) rfl [nm, code] [.string nm, .string code] rfl (mem2 (p := fun z : ByteArray => z.size ≤ 100000) (Nat.le_trans HCX.out.1 (by decide)) (Nat.le_trans HCX.out.2.1 (by decide))) (by simp) (Nat.le_trans HLl.out (by decide))).mono ?_
    rintro e wY ⟨rfl, hws, hfr⟩
    have hfA := hfr pb FA.out
    clear FA WA
    have FA := Lib.hid hfA.1
    replace e0 := (hfA.2 0).trans e0
    replace e1 := (hfA.2 1).trans e1
    replace e2 := (hfA.2 2).trans e2
    replace e3 := (hfA.2 3).trans e3
    replace e4 := (hfA.2 4).trans e4
    obtain ⟨L1, hL1⟩ : ∃ L', (LA ++ repE cP ((x.P.take i).map natP)) ++ [nm, code].flatMap txtL = L' := ⟨_, rfl⟩
    rw [hL1] at hws
    have WA := Lib.hid hws
    have EL1 := Lib.hid hL1
    clear hws hfr hfA hL1
    rename World => wX
    have HL1 := Lib.hid (show L1.length ≤ 400000 from by have h := HLl.out; have h2 := txts_flat_len (l := [nm, code]) (M := 4096) (mem2 (p := fun z : ByteArray => z.size ≤ 4096) (Nat.le_trans HCX.out.1 (by decide)) HCX.out.2.1); rw [← EL1.out, List.length_append]; simp only [List.length_cons, List.length_nil] at h2; omega)
    clear hcv
    go_wp2_with fail
    refine (ws_num WA.out (q := wX.heap.size) rfl [nm'] [.int .i64 (nm' : Int)] rfl (mem1 (p := fun z : Nat => z < 4294967296) (by have := HCX.out.2.2.1; have := HNC.out.2; omega)) (by simp) (Nat.le_trans HL1.out (by decide))).mono ?_
    rintro e wY ⟨rfl, hws, hfr⟩
    have hfA := hfr pb FA.out
    clear FA WA
    have FA := Lib.hid hfA.1
    replace e0 := (hfA.2 0).trans e0
    replace e1 := (hfA.2 1).trans e1
    replace e2 := (hfA.2 2).trans e2
    replace e3 := (hfA.2 3).trans e3
    replace e4 := (hfA.2 4).trans e4
    obtain ⟨L2, hL2⟩ : ∃ L', L1 ++ [nm'].flatMap numL = L' := ⟨_, rfl⟩
    rw [hL2] at hws
    have WA := Lib.hid hws
    have EL2 := Lib.hid hL2
    clear hws hfr hfA hL2
    rename World => wX
    have HL2 := Lib.hid (show L2.length ≤ 400004 from by have h := HL1.out; rw [← EL2.out, List.length_append, nums_flat_len]; simp only [List.length_cons, List.length_nil]; omega)
    have hmr : RowZ tStr wX (fun b => b ≤ ib) ma maps := ws_below (HP.out.2.2.2.2.2.mono (fun b _ hz => by have := HIB.out; have hz : b < w.heap.size := hz; show b < ib; omega)) WR.out WA.out
    have HNMM := Lib.hid HNC.out.2
    rw [← HNMM.out] at e2
    go_wp2_with fail
    refine (ws_row WA.out hmr (fun z hz => Nat.le_trans (HCX.out.2.2.2.1 z hz) (by decide)) (Nat.le_trans HCX.out.2.2.1 (by decide)) (Nat.le_trans HL2.out (by decide))).mono ?_
    rintro e wY ⟨rfl, hws, hfr⟩
    have hfA := hfr pb FA.out
    clear FA WA
    have FA := Lib.hid hfA.1
    replace e0 := (hfA.2 0).trans e0
    replace e1 := (hfA.2 1).trans e1
    replace e2 := (hfA.2 2).trans e2
    replace e3 := (hfA.2 3).trans e3
    replace e4 := (hfA.2 4).trans e4
    obtain ⟨L3, hL3⟩ : ∃ L', L2 ++ maps.flatMap txtL = L' := ⟨_, rfl⟩
    rw [hL3] at hws
    have WA := Lib.hid hws
    have EL3 := Lib.hid hL3
    clear hws hfr hfA hL3
    rename World => wX
    clear hmr
    have HL3 := Lib.hid (show L3.length ≤ 401000 from by have h := HL2.out; have h2 := txts_flat_len (l := maps) (M := 16) HCX.out.2.2.2.1; have h3 : maps.length * (4 + 16) ≤ 16 * 20 := Nat.mul_le_mul HCX.out.2.2.1 (Nat.le_refl _); rw [← EL3.out, List.length_append]; omega)
    obtain ⟨cx, hcx⟩ : ∃ cx : Nat, ctx = (cx : Int) := ⟨ctx.toNat, by have := HCX.out.2.2.2.2.1; omega⟩
    obtain ⟨em, hem⟩ : ∃ em : Nat, emit = (em : Int) := ⟨emit.toNat, by have := HCX.out.2.2.2.2.2; omega⟩
    subst hcx
    subst hem
    go_wp2_with fail
    refine (ws_num WA.out (q := wX.heap.size) rfl [cx, em] [.int .i64 (cx : Int), .int .i64 (em : Int)] rfl (mem2 (p := fun z : Nat => z < 4294967296) (by have := HCX.out.2.2.2.2.1; omega) (by have := HCX.out.2.2.2.2.2; omega)) (by simp) (Nat.le_trans HL3.out (by decide))).mono ?_
    rintro e wY ⟨rfl, hws, hfr⟩
    have hfA := hfr pb FA.out
    clear FA WA
    have FA := Lib.hid hfA.1
    
    obtain ⟨L4, hL4⟩ : ∃ L', L3 ++ [cx, em].flatMap numL = L' := ⟨_, rfl⟩
    rw [hL4] at hws
    have WA := Lib.hid hws
    have EL4 := Lib.hid hL4
    clear hws hfr hfA hL4
    rename World => wX
    have hn64 : n1 ≤ 64 := LEN.out.1
    go_wp2_with fail
    refine ⟨⟨i + 1, hlt, rfl, ?_⟩, by simp only [intOf]; omega⟩
    have hw := WA.out
    rw [← EL4.out, ← EL3.out, ← EL2.out, ← EL1.out] at hw
    rw [rep_take HP.out.1, ← List.append_assoc]
    rw [show cP.enc (natP ⟨nm, code, maps, (cx : Int), (em : Int)⟩) = txtL nm ++ (txtL code ++ ((numL maps.length ++ maps.flatMap txtL) ++ (numL cx ++ numL em))) from rfl]
    rw [← HNC.out.2] at hw
    simpa [List.flatMap_cons, List.append_assoc] using hw
  · obtain rfl : n1 = i := by omega
    clear hlt hi hz0
    have hws := WR.out
    rw [show (x.P.take n1).map natP = x.P.map natP from by rw [← HN.out.1, List.take_length]] at hws
    obtain ⟨L0, hL0⟩ : ∃ L', LA ++ repE cP (x.P.map natP) = L' := ⟨_, rfl⟩
    rw [hL0] at hws
    have E0LB := Lib.hid hL0
    have H0 := Lib.hid (show L0.length ≤ 320008 from by
      have h1 := rep_len (A := cP) (l := x.P.map natP) (M := 5000) (fun y hy => by
        obtain ⟨z, hz, rfl⟩ := List.mem_map.1 hy
        exact prog_len (RI.out.1 _ hz))
      have h2 : (x.P.map natP).length ≤ 64 := by rw [List.length_map]; have := LEN.out; have := HN.out; omega
      have h3 : (x.P.map natP).length * 5000 ≤ 64 * 5000 := Nat.mul_le_mul h2 (Nat.le_refl _)
      have h4 := HLLA.out
      rw [← hL0, List.length_append]
      omega)
    have a1 := hws.cell (Nat.le_refl ib) C.out.2.1
    clear WX WR
    have WX := Lib.hid hws
    clear hws hL0
    rename World => wX
    go_wp2_with fail
    refine (ws_num WX.out (q := wX.heap.size) rfl [n2] [.int .i64 (n2 : Int)] rfl (mem1 (p := fun z : Nat => z < 4294967296) (by have := LEN.out; omega)) (by simp) (Nat.le_trans H0.out (by decide))).mono ?_
    rintro e wY ⟨rfl, hws, -⟩
    obtain ⟨LB, hLB⟩ : ∃ L', L0 ++ [n2].flatMap numL = L' := ⟨_, rfl⟩
    rw [hLB] at hws
    have ELB := Lib.hid hLB
    have HLLB := Lib.hid (show LB.length ≤ 330000 from by rw [← hLB, List.length_append, nums_flat_len]; have := H0.out; simp only [List.length_cons, List.length_nil]; omega)
    clear a1 WX hLB
    have a1 := hws.cell (Nat.le_refl ib) C.out.2.1
    have WX := Lib.hid hws
    clear hws
    rename World => wX
    go_wp2_with fail
    clear a1
    go_loopw [8, 64] (fun s8 s64 wr => ∃ i : Nat, i ≤ n2 ∧ s64 = .int .i64 (i : Int) ∧ WS w1 ib wb (LB ++ repE cD ((x.D.take i).map natD)) wr) (fun _ s64 _ => n2 - (intOf s64).toNat)
    case atStart => exact ⟨0, Nat.zero_le _, rfl, by simpa [repE] using WX.out⟩
    case' round =>
      obtain ⟨i, hi, rfl, hws⟩ := hrel
      have hz0 := hws.lt
      have WR := Lib.hid hws
      clear hws
    by_cases hlt : i < n2
    · have hin : (i : Int) < (n2 : Int) := by omega
      obtain ⟨p, hp⟩ : ∃ p, x.D[i]? = some p := ⟨_, List.getElem?_eq_getElem (by rw [HN.out.2.1]; exact hlt)⟩
      have hrow : RowZ tDump wr (fun b => b < w.heap.size) da x.D := (RDm.out.keep K1.out).kept WR.out.k (fun b _ hz e => by have := HIB.out; have hz : b < w.heap.size := hz; omega)
      obtain ⟨b, o, ga, gc, rfl, hb, -, hgc, hgz, d0, d1, d2, d3, d4, d5⟩ := hrow.dump hp
      have hrt := RI.out.2.1 _ (List.mem_of_getElem? hp)
      have hLl : (LB ++ repE cD ((x.D.take i).map natD)).length ≤ 656400 := by
        have h1 := rep_len (A := cD) (l := (x.D.take i).map natD) (M := 5100) (fun y hy => by
          obtain ⟨z, hz, rfl⟩ := List.mem_map.1 hy
          exact dump_len (rightGD_nm (RI.out.2.1 _ (List.mem_of_mem_take hz))) (HD5.out _ (List.mem_of_mem_take hz)))
        have h2 : ((x.D.take i).map natD).length ≤ 64 := by rw [List.length_map, List.length_take]; have := LEN.out; have := HN.out; omega
        have h3 : ((x.D.take i).map natD).length * 5100 ≤ 64 * 5100 := Nat.mul_le_mul h2 (Nat.le_refl _)
        have h4 := HLLB.out
        rw [List.length_append]
        omega
      have HLl := Lib.hid hLl
      clear hLl hrow
      have HP := Lib.hid (And.intro hp (And.intro hrt (And.intro hgc hgz)))
      obtain ⟨⟨nm, kd0, ks0, vs0, mx0⟩, data⟩ := p
      have hB := (rightB_iff _ _ _ _ _).1 (rightGD_map hrt).1
      simp only at d0 d1 d2 d3 d4 d5 hB
      obtain ⟨kd, hkd⟩ : ∃ n : Nat, kd0 = (n : Int) := ⟨kd0.toNat, by omega⟩
      obtain ⟨ks, hks⟩ : ∃ n : Nat, ks0 = (n : Int) := ⟨ks0.toNat, by omega⟩
      obtain ⟨vs, hvs⟩ : ∃ n : Nat, vs0 = (n : Int) := ⟨vs0.toNat, by omega⟩
      obtain ⟨mx, hmx⟩ : ∃ n : Nat, mx0 = (n : Int) := ⟨mx0.toNat, by omega⟩
      subst hkd
      subst hks
      subst hvs
      subst hmx
      have HCX := Lib.hid (show nm.size ≤ 16 ∧ data.size ≤ 5000 ∧ kd ≤ 3 ∧ ks ≤ 64 ∧ vs ≤ 256 ∧ mx ≤ 1024 from ⟨nameB_size hB.1, HD5.out _ (List.mem_of_getElem? hp), by omega, by omega, by omega, by omega⟩)
      obtain ⟨nc, hnc⟩ : ∃ nc, data.size = nc := ⟨_, rfl⟩
      rw [hnc] at d5
      have HNC := Lib.hid hnc
      clear hp hgc hgz hrt hB hnc
      go_upto_region 17 with fail
      obtain ⟨pb, hpb⟩ : ∃ pb, wr.heap.size = pb := ⟨_, rfl⟩
      obtain ⟨wX, hwX⟩ : ∃ wX, wr.alloc (.cells #[.string nm, .int .i64 (kd : Int), .int .i64 (ks : Int), .int .i64 (vs : Int), .int .i64 (mx : Int), .slice ga nc gc] 101) = wX := ⟨_, rfl⟩
      have kq := Kept.one_alloc wr (.cells #[.string nm, .int .i64 (kd : Int), .int .i64 (ks : Int), .int .i64 (vs : Int), .int .i64 (mx : Int), .slice ga nc gc] 101)
      have FA := Lib.hid (WR.out.free (.cells #[.string nm, .int .i64 (kd : Int), .int .i64 (ks : Int), .int .i64 (vs : Int), .int .i64 (mx : Int), .slice ga nc gc] 101))
      have WA := Lib.hid (WR.out.keep kq)
      have hcel := fun i => World.cell?_alloc_new wr #[.string nm, .int .i64 (kd : Int), .int .i64 (ks : Int), .int .i64 (vs : Int), .int .i64 (mx : Int), .slice ga nc gc] 101 i
      rw [hpb] at FA hcel ⊢
      rw [hwX] at FA WA hcel ⊢
      have e0 := hcel 0
      have e1 := hcel 1
      have e2 := hcel 2
      have e3 := hcel 3
      have e4 := hcel 4
      have e5 := hcel 5
      simp at e0 e1 e2 e3 e4 e5
      have KX := Lib.hid (And.intro hpb hz0)
      clear hpb hwX kq hcel hz0 d0 d1 d2 d3 d4 d5
      go_wp2_with fail
      refine (ws_txt WA.out (q := wX.heap.size) rfl [nm] [.string nm] rfl (mem1 (p := fun z : ByteArray => z.size ≤ 100000) (Nat.le_trans HCX.out.1 (by decide))) (by simp) (Nat.le_trans HLl.out (by decide))).mono ?_
      rintro e wY ⟨rfl, hws, hfr⟩
      have hfA := hfr pb FA.out
      clear FA WA
      have FA := Lib.hid hfA.1
      replace e0 := (hfA.2 0).trans e0
      replace e1 := (hfA.2 1).trans e1
      replace e2 := (hfA.2 2).trans e2
      replace e3 := (hfA.2 3).trans e3
      replace e4 := (hfA.2 4).trans e4
      replace e5 := (hfA.2 5).trans e5
      obtain ⟨L1, hL1⟩ : ∃ L', (LB ++ repE cD ((x.D.take i).map natD)) ++ [nm].flatMap txtL = L' := ⟨_, rfl⟩
      rw [hL1] at hws
      have WA := Lib.hid hws
      have EL1 := Lib.hid hL1
      clear hws hfr hfA hL1
      rename World => wX
      have HL1 := Lib.hid (show L1.length ≤ 700000 from by have h := HLl.out; have h2 := txts_flat_len (l := [nm]) (M := 16) (mem1 (p := fun z : ByteArray => z.size ≤ 16) HCX.out.1); rw [← EL1.out, List.length_append]; simp only [List.length_cons, List.length_nil] at h2; omega)
      go_wp2_with fail
      refine (ws_num WA.out (q := wX.heap.size) rfl [kd, ks, vs, mx] [.int .i64 (kd : Int), .int .i64 (ks : Int), .int .i64 (vs : Int), .int .i64 (mx : Int)] rfl (mem4 (p := fun z : Nat => z < 4294967296) (by have := HCX.out; omega) (by have := HCX.out; omega) (by have := HCX.out; omega) (by have := HCX.out; omega)) (by simp) (Nat.le_trans HL1.out (by decide))).mono ?_
      rintro e wY ⟨rfl, hws, hfr⟩
      have hfA := hfr pb FA.out
      clear FA WA
      have FA := Lib.hid hfA.1
      replace e0 := (hfA.2 0).trans e0
      replace e1 := (hfA.2 1).trans e1
      replace e2 := (hfA.2 2).trans e2
      replace e3 := (hfA.2 3).trans e3
      replace e4 := (hfA.2 4).trans e4
      replace e5 := (hfA.2 5).trans e5
      obtain ⟨L2, hL2⟩ : ∃ L', L1 ++ [kd, ks, vs, mx].flatMap numL = L' := ⟨_, rfl⟩
      rw [hL2] at hws
      have WA := Lib.hid hws
      have EL2 := Lib.hid hL2
      clear hws hfr hfA hL2
      rename World => wX
      have HL2 := Lib.hid (show L2.length ≤ 700016 from by have h := HL1.out; rw [← EL2.out, List.length_append, nums_flat_len]; simp only [List.length_cons, List.length_nil]; omega)
      have hcv := (bytz_below (HP.out.2.2.2.mono (fun b _ hz => by have := HIB.out; have hz : b < w.heap.size := hz; show b < ib; omega)) WR.out WA.out).conv (c := gc)
      try simp only at hcv
      rw [HNC.out] at hcv
      go_wp2_with fail
      refine (ws_txt WA.out (q := wX.heap.size) rfl [data] [.string data] rfl (mem1 (p := fun z : ByteArray => z.size ≤ 100000) (Nat.le_trans HCX.out.2.1 (by decide))) (by simp) (Nat.le_trans HL2.out (by decide))).mono ?_
      rintro e wY ⟨rfl, hws, hfr⟩
      have hfA := hfr pb FA.out
      clear FA WA
      have FA := Lib.hid hfA.1
      
      obtain ⟨L3, hL3⟩ : ∃ L', L2 ++ [data].flatMap txtL = L' := ⟨_, rfl⟩
      rw [hL3] at hws
      have WA := Lib.hid hws
      have EL3 := Lib.hid hL3
      clear hws hfr hfA hL3
      rename World => wX
      have hn64 : n2 ≤ 64 := LEN.out.2.1
      clear hcv
      go_wp2_with fail
      refine ⟨⟨i + 1, hlt, rfl, ?_⟩, by simp only [intOf]; omega⟩
      have hw := WA.out
      rw [← EL3.out, ← EL2.out, ← EL1.out] at hw
      rw [rep_take HP.out.1, ← List.append_assoc]
      rw [show cD.enc (natD ⟨⟨nm, (kd : Int), (ks : Int), (vs : Int), (mx : Int)⟩, data⟩) = txtL nm ++ (numL kd ++ (numL ks ++ (numL vs ++ (numL mx ++ txtL data)))) from rfl]
      simpa [List.flatMap_cons, List.append_assoc] using hw
    · obtain rfl : n2 = i := by omega
      clear hlt hi hz0
      have hws := WR.out
      rw [show (x.D.take n2).map natD = x.D.map natD from by rw [← HN.out.2.1, List.take_length]] at hws
      obtain ⟨L0, hL0⟩ : ∃ L', LB ++ repE cD (x.D.map natD) = L' := ⟨_, rfl⟩
      rw [hL0] at hws
      have E0LC := Lib.hid hL0
      have H0 := Lib.hid (show L0.length ≤ 656400 from by
        have h1 := rep_len (A := cD) (l := x.D.map natD) (M := 5100) (fun y hy => by
          obtain ⟨z, hz, rfl⟩ := List.mem_map.1 hy
          exact dump_len (rightGD_nm (RI.out.2.1 _ hz)) (HD5.out _ hz))
        have h2 : (x.D.map natD).length ≤ 64 := by rw [List.length_map]; have := LEN.out; have := HN.out; omega
        have h3 : (x.D.map natD).length * 5100 ≤ 64 * 5100 := Nat.mul_le_mul h2 (Nat.le_refl _)
        have h4 := HLLB.out
        rw [← hL0, List.length_append]
        omega)
      have a2 := hws.cell (Nat.le_refl ib) C.out.2.2
      clear WX WR
      have WX := Lib.hid hws
      clear hws hL0
      rename World => wX
      go_wp2_with fail
      refine (ws_num WX.out (q := wX.heap.size) rfl [n3] [.int .i64 (n3 : Int)] rfl (mem1 (p := fun z : Nat => z < 4294967296) (by have := LEN.out; omega)) (by simp) (Nat.le_trans H0.out (by decide))).mono ?_
      rintro e wY ⟨rfl, hws, -⟩
      obtain ⟨LC, hLC⟩ : ∃ L', L0 ++ [n3].flatMap numL = L' := ⟨_, rfl⟩
      rw [hLC] at hws
      have ELC := Lib.hid hLC
      have HLLC := Lib.hid (show LC.length ≤ 660000 from by rw [← hLC, List.length_append, nums_flat_len]; have := H0.out; simp only [List.length_cons, List.length_nil]; omega)
      clear a2 WX hLC
      have a2 := hws.cell (Nat.le_refl ib) C.out.2.2
      have WX := Lib.hid hws
      clear hws
      rename World => wX
      go_wp2_with fail
      clear a2
      go_loopw [10, 105] (fun s10 s105 wr => ∃ i : Nat, i ≤ n3 ∧ s105 = .int .i64 (i : Int) ∧ WS w1 ib wb (LC ++ repE cL ((x.L.take i).map natL)) wr) (fun _ s105 _ => n3 - (intOf s105).toNat)
      case atStart => exact ⟨0, Nat.zero_le _, rfl, by simpa [repE] using WX.out⟩
      case' round =>
        obtain ⟨i, hi, rfl, hws⟩ := hrel
        have hz0 := hws.lt
        have WR := Lib.hid hws
        clear hws
      by_cases hlt : i < n3
      · have hin : (i : Int) < (n3 : Int) := by omega
        obtain ⟨p, hp⟩ : ∃ p, x.L[i]? = some p := ⟨_, List.getElem?_eq_getElem (by rw [HN.out.2.2]; exact hlt)⟩
        have hrow : RowZ tLink wr (fun b => b < w.heap.size) la x.L := (RL.out.keep K1.out).kept WR.out.k (fun b _ hz e => by have := HIB.out; have hz : b < w.heap.size := hz; omega)
        obtain ⟨b, o, rfl, hb, -, d0, d1, d2⟩ := hrow.link hp
        have hrt := RI.out.2.2 _ (List.mem_of_getElem? hp)
        have hLl : (LC ++ repE cL ((x.L.take i).map natL)).length ≤ 666400 := by
          have h1 := rep_len (A := cL) (l := (x.L.take i).map natL) (M := 100) (fun y hy => by
            obtain ⟨z, hz, rfl⟩ := List.mem_map.1 hy
            exact link_len (RI.out.2.2 _ (List.mem_of_mem_take hz)))
          have h2 : ((x.L.take i).map natL).length ≤ 64 := by rw [List.length_map, List.length_take]; have := LEN.out; have := HN.out; omega
          have h3 : ((x.L.take i).map natL).length * 100 ≤ 64 * 100 := Nat.mul_le_mul h2 (Nat.le_refl _)
          have h4 := HLLC.out
          rw [List.length_append]
          omega
        have HLl := Lib.hid hLl
        clear hLl hrow
        have HP := Lib.hid (And.intro hp (And.intro hrt trivial))
        obtain ⟨nm, pg, vr0⟩ := p
        have hB := hrt
        unfold rightGL at hB
        simp only [Bool.and_eq_true, inB_iff] at hB
        simp only at d0 d1 d2
        obtain ⟨vr, hvr⟩ : ∃ n : Nat, vr0 = (n : Int) := ⟨vr0.toNat, by omega⟩
        subst hvr
        have HCX := Lib.hid (show nm.size ≤ 16 ∧ pg.size ≤ 16 ∧ vr ≤ 1073741824 from ⟨nameB_size hB.1, nameB_size hB.2.1, by omega⟩)
        clear hp hrt hB
        go_upto_region 25 with fail
        obtain ⟨pb, hpb⟩ : ∃ pb, wr.heap.size = pb := ⟨_, rfl⟩
        obtain ⟨wX, hwX⟩ : ∃ wX, wr.alloc (.cells #[.string nm, .string pg, .int .i64 (vr : Int)] 103) = wX := ⟨_, rfl⟩
        have kq := Kept.one_alloc wr (.cells #[.string nm, .string pg, .int .i64 (vr : Int)] 103)
        have FA := Lib.hid (WR.out.free (.cells #[.string nm, .string pg, .int .i64 (vr : Int)] 103))
        have WA := Lib.hid (WR.out.keep kq)
        have hcel := fun i => World.cell?_alloc_new wr #[.string nm, .string pg, .int .i64 (vr : Int)] 103 i
        rw [hpb] at FA hcel ⊢
        rw [hwX] at FA WA hcel ⊢
        have e0 := hcel 0
        have e1 := hcel 1
        have e2 := hcel 2
        simp at e0 e1 e2
        have KX := Lib.hid (And.intro hpb hz0)
        clear hpb hwX kq hcel hz0 d0 d1 d2
        go_wp2_with fail
        refine (ws_txt WA.out (q := wX.heap.size) rfl [nm, pg] [.string nm, .string pg] rfl (mem2 (p := fun z : ByteArray => z.size ≤ 100000) (Nat.le_trans HCX.out.1 (by decide)) (Nat.le_trans HCX.out.2.1 (by decide))) (by simp) (Nat.le_trans HLl.out (by decide))).mono ?_
        rintro e wY ⟨rfl, hws, hfr⟩
        have hfA := hfr pb FA.out
        clear FA WA
        have FA := Lib.hid hfA.1
        replace e0 := (hfA.2 0).trans e0
        replace e1 := (hfA.2 1).trans e1
        replace e2 := (hfA.2 2).trans e2
        obtain ⟨L1, hL1⟩ : ∃ L', (LC ++ repE cL ((x.L.take i).map natL)) ++ [nm, pg].flatMap txtL = L' := ⟨_, rfl⟩
        rw [hL1] at hws
        have WA := Lib.hid hws
        have EL1 := Lib.hid hL1
        clear hws hfr hfA hL1
        rename World => wX
        have HL1 := Lib.hid (show L1.length ≤ 700000 from by have h := HLl.out; have h2 := txts_flat_len (l := [nm, pg]) (M := 16) (mem2 (p := fun z : ByteArray => z.size ≤ 16) HCX.out.1 HCX.out.2.1); rw [← EL1.out, List.length_append]; simp only [List.length_cons, List.length_nil] at h2; omega)
        go_wp2_with fail
        refine (ws_num WA.out (q := wX.heap.size) rfl [vr] [.int .i64 (vr : Int)] rfl (mem1 (p := fun z : Nat => z < 4294967296) (by have := HCX.out; omega)) (by simp) (Nat.le_trans HL1.out (by decide))).mono ?_
        rintro e wY ⟨rfl, hws, hfr⟩
        have hfA := hfr pb FA.out
        clear FA WA
        have FA := Lib.hid hfA.1
        
        obtain ⟨L2, hL2⟩ : ∃ L', L1 ++ [vr].flatMap numL = L' := ⟨_, rfl⟩
        rw [hL2] at hws
        have WA := Lib.hid hws
        have EL2 := Lib.hid hL2
        clear hws hfr hfA hL2
        rename World => wX
        have hn64 : n3 ≤ 64 := LEN.out.2.2
        go_wp2_with fail
        refine ⟨⟨i + 1, hlt, rfl, ?_⟩, by simp only [intOf]; omega⟩
        have hw := WA.out
        rw [← EL2.out, ← EL1.out] at hw
        rw [rep_take HP.out.1, ← List.append_assoc]
        rw [show cL.enc (natL ⟨nm, pg, (vr : Int)⟩) = txtL nm ++ (txtL pg ++ numL vr) from rfl]
        simpa [List.flatMap_cons, List.append_assoc] using hw
      · obtain rfl : n3 = i := by omega
        clear hlt hi hz0
        obtain ⟨sv, hW, hsv⟩ := WR.out.ex
        have hwc := hW.c
        have HWR := Lib.hid (And.intro hW hsv)
        clear hW hsv
        go_wp2_with fail
        go_ret2
        refine ⟨K1.out.trans WR.out.k (fun b hb e => by have := HIB.out; have e : ib < b := e; omega), .inl ⟨HRT.out, sv, rfl, ?_, fun b e => by have := HIB.out; have := HWR.out.2 b e; omega⟩⟩
        have hown := HWR.out.1.own
        rw [show (x.L.take n3).map natL = x.L.map natL from by rw [← HN.out.2.2, List.take_length]] at hown
        have hall : LC ++ repE cL (x.L.map natL) = encI x := by
          rw [← ELC.out, ← E0LC.out, ← ELB.out, ← E0LB.out, ← HLA.out]
          obtain ⟨e1, e2, e3⟩ := HN.out
          show _ = numL 721 ++ ((numL (x.P.map natP).length ++ repE cP (x.P.map natP)) ++ ((numL (x.D.map natD).length ++ repE cD (x.D.map natD)) ++ (numL (x.L.map natL).length ++ repE cL (x.L.map natL))))
          rw [List.length_map, List.length_map, List.length_map, e1, e2, e3]
          simp [List.flatMap_cons, List.append_assoc]
        rw [hall] at hown
        exact hown
end Go.Proofs.YtdkcnigghcbnpaaGreat

/- image.Decode. -/
namespace Go.Proofs.YtdkcnigghcbnpaaGreat
set_option linter.unusedVariables false
set_option linter.unusedSimpArgs false
open Go.RowKit Go.MapKept

theorem assert_lack (w : World) (x : TypeId) : (Instr.typeAssert (.iface 150 (.agg #[])) x 150 true).run Tryz.prog w = .ok (.tuple #[.agg #[], .bool true]) w := by
  simp [Instr.typeAssert, run_underlying Tryz.underlying150, Result.andThen]
set_option maxRecDepth 100000 in
theorem catch_lack {w : World} {xb eb : Nat} (older : List PanicEntry) (hxe : ¬ xb = eb) (hx : RowAt w xb 3) (he : RowAt w eb 1) :
    CallsD Tryz.prog 65 #[.pointer (some ⟨xb, 0, none⟩), .pointer (some ⟨eb, 0, none⟩)] (.panicking ({ v := lackV, recovered := false } :: older)) w fun e u' w' =>
      e = .returned (.tuple #[]) ∧ u' = .panicking ({ v := lackV, recovered := true } :: older) ∧ w' = ((((w.setCell ⟨xb, 0, none⟩ (.slice none 0 0)).setCell ⟨xb, 1, none⟩ (.slice none 0 0)).setCell ⟨xb, 2, none⟩ (.slice none 0 0)).setCell ⟨eb, 0, none⟩ (.int .i64 2)).alloc (.cells #[] 150) := by
  refine callsD_of_wpS Tryz.func65 rfl fun c₀ cs hu => ?_
  apply wpS_seq
  apply wpS_region
  simp [wpOpsS, go_sem, recoverD, hu, Tryz.ntmps65, Exit.thenS]
  refine wpS_of_wp ?_
  simp only [List.toArray_replicate, Array.replicate, List.replicate, List.setIfInBounds_toArray, List.append_toArray, List.set_cons_succ, List.set_cons_zero, List.cons_append, List.nil_append]
  have hxl := hx.lt
  have hel := he.lt
  have hxn : ¬ xb = w.heap.size := by omega
  have hen : ¬ eb = w.heap.size := by omega
  have f0 := hx.frozen 0
  have f1 := hx.frozen 1
  have f2 := hx.frozen 2
  obtain ⟨x0, e0⟩ := hx.some (o := 0) (by omega)
  obtain ⟨x1, e1⟩ := hx.some (o := 1) (by omega)
  obtain ⟨x2, e2⟩ := hx.some (o := 2) (by omega)
  have g0 := he.frozen 0
  obtain ⟨y0, d0⟩ := he.some (o := 0) (by omega)
  have hxe2 : ¬ eb = xb := fun e => hxe e.symm
  clear hx he
  simp only [lackV]
  have ha := assert_lack
  go_wp2_with fail
  cases c₀
  simp_all [bodyPostS, results, Tryz.results65]
set_option maxRecDepth 100000 in
theorem catch_none {w : World} {xb eb : Nat} :
    CallsD Tryz.prog 65 #[.pointer (some ⟨xb, 0, none⟩), .pointer (some ⟨eb, 0, none⟩)] .returning w fun e u' w' => e = .returned (.tuple #[]) ∧ u' = .returning ∧ w' = w := by
  refine callsD_of_wpS Tryz.func65 rfl fun c₀ cs hu => ?_
  apply wpS_seq
  apply wpS_region
  simp [wpOpsS, go_sem, recoverD, hu, Tryz.ntmps65, Exit.thenS]
  refine wpS_of_wp ?_
  simp only [List.toArray_replicate, Array.replicate, List.replicate, List.setIfInBounds_toArray, List.append_toArray, List.set_cons_succ, List.set_cons_zero, List.cons_append, List.nil_append]
  go_wp2_with fail
  cases c₀
  simp_all [bodyPostS, results, Tryz.results65]
def DecP (w : World) (k : ByteArray) (e : Ending) (w' : World) : Prop := Kept (fun _ => False) w w' ∧ match decI k.data.toList with
  | some x => ∃ v, e = .returned (.tuple #[v, .int .i64 0]) ∧ ImgAt w' (fun b => w.heap.size ≤ b) v x
  | none => e = .returned (.tuple #[.agg #[.slice none 0 0, .slice none 0 0, .slice none 0 0], .int .i64 2])
theorem DecP.no {w w' : World} {k : ByteArray} {e : Ending} (h : decI k.data.toList = none) (q : Kept (fun _ => False) w w') (he : e = .returned (.tuple #[.agg #[.slice none 0 0, .slice none 0 0, .slice none 0 0], .int .i64 2])) : DecP w k e w' := ⟨q, by rw [h]; exact he⟩
theorem DecP.yes {w w' : World} {k : ByteArray} {e : Ending} {x : GI} {v : Value} (h : decI k.data.toList = some x) (q : Kept (fun _ => False) w w') (he : e = .returned (.tuple #[v, .int .i64 0])) (hi : ImgAt w' (fun b => w.heap.size ≤ b) v x) : DecP w k e w' := ⟨q, by rw [h]; exact ⟨v, he, hi⟩⟩
theorem dec_results {tmps : Array Value} {xb eb : Nat} {v0 v1 v2 ev : Value} {W : World} (h2 : tmps.getD 2 undef = .pointer (some ⟨xb, 0, none⟩)) (h3 : tmps.getD 3 undef = .pointer (some ⟨eb, 0, none⟩)) (c0 : W.cell? ⟨xb, 0, none⟩ = some v0) (c1 : W.cell? ⟨xb, 1, none⟩ = some v1) (c2 : W.cell? ⟨xb, 2, none⟩ = some v2) (ce : W.cell? ⟨eb, 0, none⟩ = some ev) :
    (results Tryz.f39 tmps).run Tryz.prog W = .ok (.tuple #[.agg #[v0, v1, v2], ev]) W := by
  have hr : Tryz.f39.results = #[.cell 2 75, .cell 3 31] := rfl
  simp only [results, hr]
  simp only [h2, h3, List.mapM_toArray, List.mapM_cons, List.mapM_nil, Sem.run_bind, Sem.run_pure]
  go_simp
theorem bytes_byl {w w0 : World} {rb n : Nat} {a : Option Addr} {k : ByteArray} (h : BytesAt w a n k) (hk : Kept (fun _ => False) w w0) (hr : w.heap.size ≤ rb) : ByL w0 rb w.heap.size a k.data.toList := fun i u hu => by
  have hi : i < k.data.toList.length := (List.getElem?_eq_some_iff.1 hu).1
  have hn : n = k.data.toList.length := by rw [h.1]; simp
  obtain ⟨b, o, e, hb, hc⟩ := h.2.2 i (by omega)
  refine ⟨b, o, e, hb, by omega, (hk.cell (p := ⟨b, o + i, none⟩) hb (fun e => e)).trans ?_⟩
  rw [hc]
  unfold nums
  rw [List.getD_eq_getElem?_getD, List.getElem?_map, hu]
  rfl
theorem flat_le {α : Type} {f : α → List UInt8} {l : List α} {x : α} (h : x ∈ l) : (f x).length ≤ (l.flatMap f).length := by
  induction l with
  | nil => cases h
  | cons a l ih =>
    rw [List.flatMap_cons, List.length_append]
    rcases List.mem_cons.1 h with rfl | h
    · omega
    · have := ih h
      omega
theorem small_of {k : ByteArray} {y : Img} {r : List UInt8} (hk : k.data.toList.length ≤ 1000000) (h : dHead k.data.toList = some (y, r)) : (intI y).small := by
  unfold dHead at h
  cases hd : dNum k.data.toList with
  | none => rw [hd] at h; cases h
  | some p =>
    obtain ⟨n, r0⟩ := p
    rw [hd] at h
    simp only at h
    split at h
    · obtain ⟨⟨h1, h2, h3⟩, h4⟩ := cI.bwd _ _ _ h
      have hr0 := (dNum_lt hd).2
      have hl : (cI.enc y).length ≤ 1000000 := by
        rw [h4, List.length_append] at hr0
        omega
      obtain ⟨P, D, L⟩ := y
      have hp : P.length ≤ 64 := h1.1
      have hdl : D.length ≤ 64 := h2.1
      have hll : L.length ≤ 64 := h3.1
      refine ⟨?_, ?_, ?_, fun p hp => ?_, fun d hd => ?_⟩
      · show (P.map intP).length ≤ _
        rw [List.length_map]
        omega
      · show (D.map intD).length ≤ _
        rw [List.length_map]
        omega
      · show (L.map intL).length ≤ _
        rw [List.length_map]
        omega
      · obtain ⟨q, hq, rfl⟩ := List.mem_map.1 hp
        have : q.2.2.1.length ≤ 64 := (h1.2 q hq).2.2.1.1
        show q.2.2.1.length ≤ _
        omega
      · obtain ⟨q, hq, rfl⟩ := List.mem_map.1 hd
        have e1 : (cD.enc q).length ≤ (repE cD D).length := flat_le hq
        have e2 : (cI.enc (P, D, L)).length = ((cRows cP 64 (by decide)).enc P).length + ((numL D.length ++ repE cD D).length + ((cRows cL 64 (by decide)).enc L).length) := by
          show ((_ ++ (_ ++ _) : List UInt8)).length = _
          rw [List.length_append, List.length_append]
          rfl
        have e3 : (cD.enc q).length = (txtL q.1).length + (4 + (4 + (4 + (4 + (txtL q.2.2.2.2.2).length)))) := by
          show ((txtL q.1 ++ (numL _ ++ (numL _ ++ (numL _ ++ (numL _ ++ txtL _)))) : List UInt8)).length = _
          simp only [List.length_append, numL_len]
        have e4 : (txtL q.2.2.2.2.2).length = 4 + q.2.2.2.2.2.size := by
          unfold txtL
          rw [List.length_append, numL_len]
          simp
        rw [List.length_append] at e2
        show q.2.2.2.2.2.size ≤ _
        omega
    · cases h
theorem set3_cells {w : World} {b : Nat} {v0 v1 v2 : Value} (h : RowAt w b 3) : ∀ i v, [v0, v1, v2][i]? = some v → (((w.setCell ⟨b, 0, none⟩ v0).setCell ⟨b, 1, none⟩ v1).setCell ⟨b, 2, none⟩ v2).cell? ⟨b, i, none⟩ = some v := by
  obtain ⟨t, ht⟩ := row_set3 (v0 := v0) (v1 := v1) (v2 := v2) h
  intro i v hv
  simp only [World.cell?, ht]
  match i, hv with
  | 0, hv => simpa using hv
  | 1, hv => simpa using hv
  | 2, hv => simpa using hv
/-- Behind a panic that was caught: no image, and the error. -/
theorem lack_world {w1 : World} {xb eb : Nat} (hxe : ¬ xb = eb) (hx : RowAt w1 xb 3) (he : RowAt w1 eb 1) : ∃ w9, ((((w1.setCell ⟨xb, 0, none⟩ (.slice none 0 0)).setCell ⟨xb, 1, none⟩ (.slice none 0 0)).setCell ⟨xb, 2, none⟩ (.slice none 0 0)).setCell ⟨eb, 0, none⟩ (.int .i64 2)).alloc (.cells #[] 150) = w9 ∧ Kept (fun b => b = xb ∨ b = eb) w1 w9 ∧ (∀ i, i < 3 → w9.cell? ⟨xb, i, none⟩ = some (.slice none 0 0)) ∧ w9.cell? ⟨eb, 0, none⟩ = some (.int .i64 2) := by
  refine ⟨_, rfl, ?_, fun i hi => ?_, ?_⟩
  · exact ((((Kept.one_set w1 ⟨xb, 0, none⟩ _).mono (S' := fun b => b = xb ∨ b = eb) fun _ _ e => .inl e).trans (Kept.one_set _ ⟨xb, 1, none⟩ _) (fun _ _ e => .inl e)).trans (Kept.one_set _ ⟨xb, 2, none⟩ _) (fun _ _ e => .inl e)).trans ((Kept.one_set _ ⟨eb, 0, none⟩ _).trans (Kept.one_alloc _ _) (fun _ _ e => e.elim)) (fun _ _ e => .inr e)
  · obtain ⟨t, ht⟩ := row_set3 (v0 := .slice none 0 0) (v1 := .slice none 0 0) (v2 := .slice none 0 0) hx
    have k1 : Kept (fun b => b = eb) (((w1.setCell ⟨xb, 0, none⟩ (.slice none 0 0)).setCell ⟨xb, 1, none⟩ (.slice none 0 0)).setCell ⟨xb, 2, none⟩ (.slice none 0 0)) _ := (Kept.one_set _ ⟨eb, 0, none⟩ (.int .i64 2)).trans (Kept.one_alloc _ (.cells #[] 150)) (fun _ _ e => e.elim)
    refine (k1.cell (p := ⟨xb, i, none⟩) (Array.getElem?_eq_some_iff.1 ht).1 hxe).trans ?_
    simp only [World.cell?, ht]
    match i, hi with
    | 0, _ => rfl
    | 1, _ => rfl
    | 2, _ => rfl
  · have h1 : RowAt (((w1.setCell ⟨xb, 0, none⟩ (.slice none 0 0)).setCell ⟨xb, 1, none⟩ (.slice none 0 0)).setCell ⟨xb, 2, none⟩ (.slice none 0 0)) eb 1 := ((he.setCell _ _).setCell _ _).setCell _ _
    refine ((Kept.one_alloc _ (.cells #[] 150)).cell (p := ⟨eb, 0, none⟩) (h1.setCell _ _).lt (fun e => e)).trans ?_
    exact cell_set_same h1 (by omega) _
set_option maxRecDepth 100000 in
set_option maxHeartbeats 4000000 in
theorem decode_any {w : World} {a : Option Addr} {n c : Nat} {k : ByteArray} (h : BytesAt w a n k) (hc : n ≤ c) (hn : n ≤ 1000000) :
    Calls Tryz.prog 39 #[.slice a n c] w (DecP w k) := by
  have H := Lib.hid (And.intro h hc)
  have hlen : k.data.toList.length = n := by rw [h.1]; simp
  clear h hc
  go_enter_defers Tryz.func39, Tryz.ntmps39
  go_wp2_with fail
  obtain ⟨xb, hxb⟩ : ∃ xb, w.heap.size = xb := ⟨_, rfl⟩
  obtain ⟨w0, hw0⟩ : ∃ w0, ((w.alloc (.cells #[.slice none 0 0, .slice none 0 0, .slice none 0 0] 75)).alloc (.cells #[.int .i64 0] 31)).alloc (.cells #[.slice a n c] 153) = w0 := ⟨_, rfl⟩
  have k1 := Kept.one_alloc w (.cells #[.slice none 0 0, .slice none 0 0, .slice none 0 0] 75)
  have k2 := Kept.one_alloc (w.alloc (.cells #[.slice none 0 0, .slice none 0 0, .slice none 0 0] 75)) (.cells #[.int .i64 0] 31)
  have k3 := Kept.one_alloc ((w.alloc (.cells #[.slice none 0 0, .slice none 0 0, .slice none 0 0] 75)).alloc (.cells #[.int .i64 0] 31)) (.cells #[.slice a n c] 153)
  have b1 : RowAt _ _ 3 := RowAt.new w #[.slice none 0 0, .slice none 0 0, .slice none 0 0] 75
  have b2 := Box.new (w.alloc (.cells #[.slice none 0 0, .slice none 0 0, .slice none 0 0] 75)) (.int .i64 0) 31
  have b3 := Box.new ((w.alloc (.cells #[.slice none 0 0, .slice none 0 0, .slice none 0 0] 75)).alloc (.cells #[.int .i64 0] 31)) (.slice a n c) 153
  have z1 : (w.alloc (.cells #[.slice none 0 0, .slice none 0 0, .slice none 0 0] 75)).heap.size = xb + 1 := by rw [← hxb]; simp
  have z2 : ((w.alloc (.cells #[.slice none 0 0, .slice none 0 0, .slice none 0 0] 75)).alloc (.cells #[.int .i64 0] 31)).heap.size = xb + 1 + 1 := by rw [← hxb]; simp
  rw [hxb] at b1
  rw [z1] at b2
  rw [z2] at b3
  have hX := (b1.kept k2 (fun e => e)).kept k3 (fun e => e)
  have hE := b2.kept k3 (fun e => e)
  have hK := (k1.trans k2 (fun _ _ e => e)).trans k3 (fun _ _ e => e)
  rw [hw0] at hX hE hK b3 ⊢
  rw [hxb]
  obtain ⟨eb, heb⟩ : ∃ eb, xb + 1 = eb := ⟨_, rfl⟩
  obtain ⟨rb, hrb⟩ : ∃ rb, eb + 1 = rb := ⟨_, rfl⟩
  rw [heb] at b3 hE ⊢
  rw [hrb] at b3 ⊢
  have hrd : RdAt w0 rb w.heap.size k.data.toList := ⟨b3.row, hK.size, a, c, by rw [hlen]; exact b3.cell, by rw [hlen]; exact H.out.2, bytes_byl H.out.1 hK (by omega)⟩
  have A := Lib.hid (And.intro hX (And.intro hE (And.intro hK (And.intro hrd hxb))))
  have hxe : ¬ xb = eb := by omega
  have hxr : ¬ xb = rb := by omega
  have her : ¬ eb = rb := by omega
  have LT := Lib.hid (show xb < eb ∧ eb < rb from by omega)
  clear k1 k2 k3 b1 b2 b3 z1 z2 hX hE hK hrd hxb heb hrb hw0
  refine (image_any A.out.2.2.2.1 (by rw [hlen]; exact hn)).mono ?_
  rintro e w1 ⟨k1, ⟨y, r, v, hd, rfl, hI, hrd⟩ | ⟨hd, rfl⟩⟩
  case' inr =>
    have K := Lib.hid (And.intro k1 hd)
    have hx1 := A.out.1.kept k1 hxr
    have he1 := A.out.2.1.kept k1 her
    have E := Lib.hid (And.intro hx1 he1)
    clear k1 hd hx1 he1
    simp only [lackE]
    go_wp2_with fail
    refine leaves_cons (f := 65) (args := #[.pointer (some ⟨xb, 0, none⟩), .pointer (some ⟨eb, 0, none⟩)]) (by simp) (by simp [go_sem]) ?_
    refine (catch_lack [] hxe E.out.1 E.out.2.row).mono ?_
    rintro e u' w'' ⟨rfl, rfl, rfl⟩
    obtain ⟨w9, hw9, k9, c9, e9⟩ := lack_world hxe E.out.1 E.out.2.row
    rw [hw9]
    simp [Leaves, settle]
    refine ⟨_, dec_results rfl rfl (c9 0 (by omega)) (c9 1 (by omega)) (c9 2 (by omega)) e9, DecP.no ?_ ?_ rfl⟩
    · unfold decI
      rw [dImg_head, K.out.2]
    · exact (A.out.2.2.1.trans K.out.1 (fun b hb e => by have := A.out.2.2.2.2; have := LT.out; have e : b = rb := e; omega)).trans k9 (fun b hb e => e.elim (fun e => by have := A.out.2.2.2.2; omega) (fun e => by have := A.out.2.2.2.2; have := LT.out; omega))
  obtain ⟨pa, pc, da, dc, la, lc, rfl, h1, h2, h3, y1, y2, y3⟩ := hI
  obtain ⟨ra, rc, hrc, -, -⟩ := hrd.c
  have hx1 := A.out.1.kept k1 hxr
  have he1 := A.out.2.1.row.kept k1 her
  obtain ⟨n1, hn1⟩ : ∃ n1, (intI y).P.length = n1 := ⟨_, rfl⟩
  obtain ⟨n2, hn2⟩ : ∃ n2, (intI y).D.length = n2 := ⟨_, rfl⟩
  obtain ⟨n3, hn3⟩ : ∃ n3, (intI y).L.length = n3 := ⟨_, rfl⟩
  obtain ⟨R, hR⟩ : ∃ R, r.length = R := ⟨_, rfl⟩
  rw [hR] at hrc
  obtain ⟨w2, hw2⟩ : ∃ w2, ((w1.setCell ⟨xb, 0, none⟩ (.slice pa n1 pc)).setCell ⟨xb, 1, none⟩ (.slice da n2 dc)).setCell ⟨xb, 2, none⟩ (.slice la n3 lc) = w2 := ⟨_, rfl⟩
  have ks : Kept (fun b => b = xb) w1 w2 := by rw [← hw2]; exact ((Kept.one_set w1 ⟨xb, 0, none⟩ _).trans (Kept.one_set _ ⟨xb, 1, none⟩ _) (fun _ _ e => e)).trans (Kept.one_set _ ⟨xb, 2, none⟩ _) (fun _ _ e => e)
  have hcl : ∀ i v, ([.slice pa n1 pc, .slice da n2 dc, .slice la n3 lc] : List Value)[i]? = some v → w2.cell? ⟨xb, i, none⟩ = some v := by rw [← hw2]; exact set3_cells hx1
  have hx2 : RowAt w2 xb 3 := by rw [← hw2]; exact ((hx1.setCell _ _).setCell _ _).setCell _ _
  have he2 : RowAt w2 eb 1 := he1.kept ks (fun e => hxe (Eq.symm e))
  have hrx : ¬ rb = xb := fun e => hxr e.symm
  have hrc2 : w2.cell? ⟨rb, 0, none⟩ = some (.slice ra R rc) := (ks.cell (p := ⟨rb, 0, none⟩) hrd.row.lt hrx).trans hrc
  have hI2 : ImgAt w2 (fun b => w0.heap.size ≤ b) (.agg #[.slice pa n1 pc, .slice da n2 dc, .slice la n3 lc]) (intI y) := by
    rw [← hn1, ← hn2, ← hn3]
    exact ImgAt.kept ⟨pa, pc, da, dc, la, lc, rfl, h1, h2, h3, y1, y2, y3⟩ ks (fun b _ hz e => by have e : b = xb := e; have hz : w0.heap.size ≤ b := hz; have := A.out.1.lt; omega)
  have K := Lib.hid (And.intro k1 (And.intro ks (And.intro hd (And.intro hR hI2))))
  have E := Lib.hid (And.intro hx2 he2)
  rw [hn1, hn2, hn3]
  have f0 := hx1.frozen 0
  have f1 := hx1.frozen 1
  have f2 := hx1.frozen 2
  obtain ⟨x0, e0⟩ := hx1.some (o := 0) (by omega)
  obtain ⟨x1, e1⟩ := hx1.some (o := 1) (by omega)
  obtain ⟨x2, e2⟩ := hx1.some (o := 2) (by omega)
  have HW2 := Lib.hid (And.intro hw2 (And.intro hcl hrc2))
  clear k1 ks hd hR hI2 h1 h2 h3 y1 y2 y3 hn1 hn2 hn3 hcl hx2 he2 hx1 he1 hrd hrc2 hw2 hrc
  go_upto_region 4 with fail
  rw [HW2.out.1]
  have hrc2 := HW2.out.2.2
  have g0 := HW2.out.2.1 0 _ rfl
  have g1 := HW2.out.2.1 1 _ rfl
  have g2 := HW2.out.2.1 2 _ rfl
  clear f0 f1 f2 e0 e1 e2
  by_cases hR : 0 < R
  · have hR1 : (0 : Int) < (R : Int) := by omega
    have HR := Lib.hid hR
    clear hR
    go_wp2_with fail
    refine leaves_cons (f := 65) (args := #[.pointer (some ⟨xb, 0, none⟩), .pointer (some ⟨eb, 0, none⟩)]) (by simp) (by simp [go_sem]) ?_
    refine (catch_lack [] hxe E.out.1 E.out.2).mono ?_
    rintro e u' w'' ⟨rfl, rfl, rfl⟩
    obtain ⟨w9, hw9, k9, c9, e9⟩ := lack_world hxe E.out.1 E.out.2
    rw [hw9]
    simp [Leaves, settle]
    refine ⟨_, dec_results rfl rfl (c9 0 (by omega)) (c9 1 (by omega)) (c9 2 (by omega)) e9, DecP.no ?_ ?_ rfl⟩
    · unfold decI
      rw [dImg_head, K.out.2.2.1]
      try simp only
      have : r ≠ [] := fun e => by have h := K.out.2.2.2.1; rw [e] at h; have := HR.out; simp at h; omega
      cases r with
      | nil => exact absurd rfl this
      | cons a b => rfl
    · exact ((A.out.2.2.1.trans K.out.1 (fun b hb e => by have := A.out.2.2.2.2; have := LT.out; have e : b = rb := e; omega)).trans K.out.2.1 (fun b hb e => by have := A.out.2.2.2.2; have e : b = xb := e; omega)).trans k9 (fun b hb e => e.elim (fun e => by have := A.out.2.2.2.2; omega) (fun e => by have := A.out.2.2.2.2; have := LT.out; omega))
  · obtain rfl : R = 0 := by omega
    clear hR
    go_wp2_with fail
    refine (imgright_any K.out.2.2.2.2 (small_of (k := k) ?_ K.out.2.2.1)).mono ?_
    · rw [hlen]; exact hn
    rintro e w3 ⟨rfl, k3⟩
    have d0 := (k3.cell (p := ⟨xb, 0, none⟩) E.out.1.lt (fun e => e)).trans g0
    have d1 := (k3.cell (p := ⟨xb, 1, none⟩) E.out.1.lt (fun e => e)).trans g1
    have d2 := (k3.cell (p := ⟨xb, 2, none⟩) E.out.1.lt (fun e => e)).trans g2
    have E3 := Lib.hid (And.intro (E.out.1.kept k3 (fun e => e)) (E.out.2.kept k3 (fun e => e)))
    have K3 := Lib.hid k3
    have hr0 : r = [] := List.eq_nil_of_length_eq_zero K.out.2.2.2.1
    have HR0 := Lib.hid hr0
    obtain ⟨rt, hrt⟩ : ∃ rt, rightGI (intI y) = rt := ⟨_, rfl⟩
    rw [hrt]
    have HRT := Lib.hid hrt
    clear k3 hrt hrc2 g0 g1 g2 hr0
    have HKB := Lib.hid (show Kept (fun _ => False) w w3 from ((A.out.2.2.1.trans K.out.1 (fun b hb e => by have := A.out.2.2.2.2; have := LT.out; have e : b = rb := e; omega)).trans K.out.2.1 (fun b hb e => by have := A.out.2.2.2.2; have e : b = xb := e; omega)).trans K3.out (fun _ _ e => e))
    cases rt
    · go_wp2_with fail
      refine leaves_cons (f := 65) (args := #[.pointer (some ⟨xb, 0, none⟩), .pointer (some ⟨eb, 0, none⟩)]) (by simp) (by simp [go_sem]) ?_
      refine (catch_lack [] hxe E3.out.1 E3.out.2).mono ?_
      rintro e u' w'' ⟨rfl, rfl, rfl⟩
      obtain ⟨w9, hw9, k9, c9, e9⟩ := lack_world hxe E3.out.1 E3.out.2
      rw [hw9]
      simp [Leaves, settle]
      refine ⟨_, dec_results rfl rfl (c9 0 (by omega)) (c9 1 (by omega)) (c9 2 (by omega)) e9, DecP.no ?_ ?_ rfl⟩
      · unfold decI
        rw [dImg_head, K.out.2.2.1]
        rw [HR0.out]
        try simp only
        rw [if_neg (by rw [HRT.out]; decide)]
      · exact HKB.out.trans k9 (fun b hb e => e.elim (fun e => by have := A.out.2.2.2.2; omega) (fun e => by have := A.out.2.2.2.2; have := LT.out; omega))
    · have f0 := E3.out.1.frozen 0
      have f1 := E3.out.1.frozen 1
      have f2 := E3.out.1.frozen 2
      have f3 := E3.out.2.frozen 0
      obtain ⟨x3, e3⟩ := E3.out.2.some (o := 0) (by omega)
      have hex : ¬ eb = xb := fun e => hxe e.symm
      go_wp2_with fail
      obtain ⟨w4, hw4⟩ : ∃ w4, (((w3.setCell ⟨xb, 0, none⟩ (.slice pa n1 pc)).setCell ⟨xb, 1, none⟩ (.slice da n2 dc)).setCell ⟨xb, 2, none⟩ (.slice la n3 lc)).setCell ⟨eb, 0, none⟩ (.int .i64 0) = w4 := ⟨_, rfl⟩
      have ks3 : Kept (fun b => b = xb) w3 (((w3.setCell ⟨xb, 0, none⟩ (.slice pa n1 pc)).setCell ⟨xb, 1, none⟩ (.slice da n2 dc)).setCell ⟨xb, 2, none⟩ (.slice la n3 lc)) := ((Kept.one_set w3 ⟨xb, 0, none⟩ _).trans (Kept.one_set _ ⟨xb, 1, none⟩ _) (fun _ _ e => e)).trans (Kept.one_set _ ⟨xb, 2, none⟩ _) (fun _ _ e => e)
      have k4e : Kept (fun b => b = eb) (((w3.setCell ⟨xb, 0, none⟩ (.slice pa n1 pc)).setCell ⟨xb, 1, none⟩ (.slice da n2 dc)).setCell ⟨xb, 2, none⟩ (.slice la n3 lc)) w4 := by rw [← hw4]; exact Kept.one_set _ ⟨eb, 0, none⟩ _
      have hcl : ∀ i v, ([.slice pa n1 pc, .slice da n2 dc, .slice la n3 lc] : List Value)[i]? = some v → w4.cell? ⟨xb, i, none⟩ = some v := fun i v hv => (k4e.cell (p := ⟨xb, i, none⟩) (Nat.lt_of_lt_of_le E3.out.1.lt ks3.size) hxe).trans (set3_cells E3.out.1 i v hv)
      have he4 : w4.cell? ⟨eb, 0, none⟩ = some (.int .i64 0) := by rw [← hw4]; exact cell_set_same (((E3.out.2.setCell _ _).setCell _ _).setCell _ _) (by omega) _
      have k34 : Kept (fun b => b = xb ∨ b = eb) w3 w4 := (ks3.mono fun _ _ e => .inl e).trans k4e (fun _ _ e => .inr e)
      rw [hw4]
      refine leaves_cons (f := 65) (args := #[.pointer (some ⟨xb, 0, none⟩), .pointer (some ⟨eb, 0, none⟩)]) (by simp) (by simp [go_sem]) ?_
      refine catch_none.mono ?_
      rintro e u' w'' ⟨rfl, rfl, rfl⟩
      simp [Leaves, settle]
      refine ⟨_, dec_results rfl rfl (hcl 0 _ rfl) (hcl 1 _ rfl) (hcl 2 _ rfl) he4, DecP.yes (x := intI y) ?_ ?_ rfl ?_⟩
      · unfold decI
        rw [dImg_head, K.out.2.2.1]
        rw [HR0.out]
        try simp only
        rw [if_pos HRT.out]
      · exact HKB.out.trans k34 (fun b hb e => e.elim (fun e => by have := A.out.2.2.2.2; omega) (fun e => by have := A.out.2.2.2.2; have := LT.out; omega))
      · refine ((K.out.2.2.2.2.keep K3.out).mono (Z' := fun b => w.heap.size ≤ b ∧ eb < b) (fun b _ hz => ?_)).kept k34 (fun b _ hz e => ?_) |>.mono (fun b _ hz => hz.1)
        · have hz : w0.heap.size ≤ b := hz
          have := A.out.2.2.2.1.row.lt
          have := LT.out
          have := A.out.2.2.2.2
          exact ⟨by omega, by omega⟩
        · have := hz.2
          have := LT.out
          rcases e with e | e <;> omega
end Go.Proofs.YtdkcnigghcbnpaaGreat

/- What the statements on images take: Encode's bytes as Decode's. -/
namespace Go.Proofs.YtdkcnigghcbnpaaGreat
set_option linter.unusedVariables false
set_option linter.unusedSimpArgs false
open Go.RowKit Go.MapKept

def baL (L : List UInt8) : ByteArray := ⟨L.toArray⟩
theorem baL_list (L : List UInt8) : (baL L).data.toList = L := by simp [baL]
theorem baL_size (L : List UInt8) : (baL L).size = L.length := by
  show L.toArray.size = L.length
  simp
theorem u8L_get {L : List UInt8} {i : Nat} (hi : i < L.length) : (u8L L)[i]? = some (.int .u8 ((nums (baL L)).getD i 0)) := by
  unfold u8L nums
  rw [baL_list, List.getElem?_map, List.getElem?_eq_getElem hi]
  simp [List.getD_eq_getElem?_getD, hi]
theorem own_u8 {w : World} {sv : Value} {L : List UInt8} (h : w.ownsRow 0 5 1 sv L.length (u8L L)) : ∃ a c, sv = .slice a L.length c ∧ L.length ≤ c ∧ BytesAt w a L.length (baL L) ∧ ∀ b o, a = some ⟨b, o, none⟩ → sv.ownBlock = some b := by
  obtain ⟨a, c, rfl, hg, hz, hc⟩ := own_form h
  refine ⟨a, c, rfl, hc, ⟨(baL_size L).symm, fun h0 ad e => ?_, fun i hi => ?_⟩, fun b o e => by rw [e]; rfl⟩
  · exact ⟨ad.block, 0, hz ad e⟩
  · obtain ⟨g, rfl⟩ := hg (by omega)
    refine ⟨g, 0, rfl, (h.lt g rfl).2, ?_⟩
    rw [Nat.zero_add]
    exact own_cell h (u8L_get hi)
theorem enc_len {x : GI} (h : rightGI x = true) (h5 : ∀ d ∈ x.D, d.data.size ≤ 5000) : (encI x).length ≤ 700000 := by
  obtain ⟨r1, r2, r3⟩ := right_all h
  have e : (encI x).length = 4 + ((4 + (repE cP (x.P.map natP)).length) + ((4 + (repE cD (x.D.map natD)).length) + (4 + (repE cL (x.L.map natL)).length))) := by
    show ((numL 721 ++ ((numL _ ++ repE cP (x.P.map natP)) ++ ((numL _ ++ repE cD (x.D.map natD)) ++ (numL _ ++ repE cL (x.L.map natL)))) : List UInt8)).length = _
    simp only [List.length_append, numL_len]
  have l1 := rep_len (A := cP) (l := x.P.map natP) (M := 5000) (fun y hy => by obtain ⟨z, hz, rfl⟩ := List.mem_map.1 hy; exact prog_len (r1 z hz))
  have l2 := rep_len (A := cD) (l := x.D.map natD) (M := 5100) (fun y hy => by obtain ⟨z, hz, rfl⟩ := List.mem_map.1 hy; exact dump_len (rightGD_nm (r2 z hz)) (h5 z hz))
  have l3 := rep_len (A := cL) (l := x.L.map natL) (M := 100) (fun y hy => by obtain ⟨z, hz, rfl⟩ := List.mem_map.1 hy; exact link_len (r3 z hz))
  unfold rightGI at h
  simp only [Bool.and_eq_true, decide_eq_true_eq] at h
  have m1 := Nat.mul_le_mul h.1.1 (Nat.le_refl 5000)
  have m2 := Nat.mul_le_mul h.2.1.1 (Nat.le_refl 5100)
  have m3 := Nat.mul_le_mul h.2.2.1 (Nat.le_refl 100)
  rw [List.length_map] at l1 l2 l3
  omega
/-- Decode of a row of bytes. -/
theorem decode_row {w : World} {a : Option Addr} {c : Nat} {L : List UInt8} (h : BytesAt w a L.length (baL L)) (hc : L.length ≤ c) (hn : L.length ≤ 1000000) :
    Calls Tryz.prog 39 #[.slice a L.length c] w fun e w' => Kept (fun _ => False) w w' ∧ ((∃ x v, decI L = some x ∧ e = .returned (.tuple #[v, .int .i64 0]) ∧ ImgAt w' (fun b => w.heap.size ≤ b) v x) ∨ (decI L = none ∧ e = .returned (.tuple #[.agg #[.slice none 0 0, .slice none 0 0, .slice none 0 0], .int .i64 2]))) := by
  refine (decode_any h hc hn).mono ?_
  rintro e w' ⟨k, hp⟩
  rw [baL_list] at hp
  refine ⟨k, ?_⟩
  cases hd : decI L with
  | none => rw [hd] at hp; exact .inr ⟨rfl, hp⟩
  | some x => rw [hd] at hp; obtain ⟨v, h1, h2⟩ := hp; exact .inl ⟨x, v, rfl, h1, h2⟩
/-- Encode of a right image. -/
theorem encode_right {w : World} {Z : Nat → Prop} {v : Value} {x : GI} (h : ImgAt w Z v x) (hs : x.small) (hd5 : ∀ d ∈ x.D, d.data.size ≤ 5000) (hr : rightGI x = true) : Calls Tryz.prog 34 #[v] w fun e w' => Kept (fun _ => False) w w' ∧ ∃ sv, e = .returned (.tuple #[sv, .int .i64 0]) ∧ w'.ownsRow 0 5 1 sv (encI x).length (u8L (encI x)) ∧ ∀ b, sv.ownBlock = some b → w.heap.size ≤ b := by
  refine (encode_any h hs hd5).mono ?_
  rintro e w' ⟨k, h1 | h1⟩
  · exact ⟨k, h1.2⟩
  · rw [hr] at h1
    cases h1.1
theorem row_one {α : Type} {T : Thing α} {w : World} {Z : Nat → Prop} {x : α} {cs : List Value} {ty : TypeId} (h : T.at_ (w.alloc (.cells cs.toArray ty)) Z x cs) (hz : Z w.heap.size) : RowZ T (w.alloc (.cells cs.toArray ty)) Z (some ⟨w.heap.size, 0, none⟩) [x] := fun i y hy => by
  match i, hy with
  | 0, hy =>
    cases hy
    refine ⟨w.heap.size, 0, cs, rfl, by simp, hz, fun j v hj => ?_, h⟩
    rw [show 0 + 0 * T.k + j = j from by omega, World.cell?_alloc_new w _ _ j, List.getElem?_toArray]
    exact hj
theorem cw18 (w : World) (o : Obj) (C : Array Value) (n c : Nat) : (convert 28 28 (.slice (some ⟨w.heap.size + 1, 0, none⟩) n c)).run Tryz.prog ((w.alloc o).alloc (.cells C 5)) = .ok (.slice (some ⟨w.heap.size + 1, 0, none⟩) n c) ((w.alloc o).alloc (.cells C 5 (C.size, C.size + 1))) :=
  Go.Joins.run_convert_bytes_const_at (w.alloc o) 28 5 C n c _ (by simp) Tryz.underlying28 Tryz.underlying5
/-- The image of law18.shown. -/
def sh18 : GI := ⟨[], [⟨⟨⟨#[109]⟩, 3, 1, 1, 2⟩, ⟨#[98, 49, 97, 50]⟩⟩], [⟨⟨#[108]⟩, ⟨#[112]⟩, 3⟩]⟩
theorem sh18_right : rightGI sh18 = true := by decide +kernel
theorem nil_right : rightGI ⟨[], [], []⟩ = true := by decide +kernel
theorem nil_len : (encI ⟨[], [], []⟩).length = 16 := by decide +kernel
theorem sh18_small : sh18.small := ⟨by decide, by decide, by decide, fun p hp => (by cases hp), fun d hd => by
  rcases List.mem_cons.1 hd with rfl | hd
  · decide
  · cases hd⟩
theorem sh18_d5 : ∀ d ∈ sh18.D, d.data.size ≤ 5000 := fun d hd => by
  rcases List.mem_cons.1 hd with rfl | hd
  · decide
  · cases hd
theorem sh18_at (w : World) : ImgAt ((((w.alloc (.cells #[.string ⟨#[108]⟩, .string ⟨#[112]⟩, .int .i64 3] 103)).alloc (.cells #[.int .u8 98, .int .u8 49, .int .u8 97, .int .u8 50] 5 (4, 5))).alloc (.cells #[.string ⟨#[109]⟩, .int .i64 3, .int .i64 1, .int .i64 1, .int .i64 2, .slice (some ⟨w.heap.size + 1, 0, none⟩) 4 4] 101)).alloc (.cells #[.slice none 0 0, .slice (some ⟨w.heap.size + 1 + 1, 0, none⟩) 1 1, .slice (some ⟨w.heap.size, 0, none⟩) 1 1] 75)) (fun b => w.heap.size ≤ b) (.agg #[.slice none 0 0, .slice (some ⟨w.heap.size + 1 + 1, 0, none⟩) 1 1, .slice (some ⟨w.heap.size, 0, none⟩) 1 1]) sh18 := by
  have k1 := Kept.one_alloc (w.alloc (.cells #[.string ⟨#[108]⟩, .string ⟨#[112]⟩, .int .i64 3] 103)) (.cells #[.int .u8 98, .int .u8 49, .int .u8 97, .int .u8 50] 5 (4, 5))
  have k2 := Kept.one_alloc ((w.alloc (.cells #[.string ⟨#[108]⟩, .string ⟨#[112]⟩, .int .i64 3] 103)).alloc (.cells #[.int .u8 98, .int .u8 49, .int .u8 97, .int .u8 50] 5 (4, 5))) (.cells #[.string ⟨#[109]⟩, .int .i64 3, .int .i64 1, .int .i64 1, .int .i64 2, .slice (some ⟨w.heap.size + 1, 0, none⟩) 4 4] 101)
  have k3 := Kept.one_alloc (((w.alloc (.cells #[.string ⟨#[108]⟩, .string ⟨#[112]⟩, .int .i64 3] 103)).alloc (.cells #[.int .u8 98, .int .u8 49, .int .u8 97, .int .u8 50] 5 (4, 5))).alloc (.cells #[.string ⟨#[109]⟩, .int .i64 3, .int .i64 1, .int .i64 1, .int .i64 2, .slice (some ⟨w.heap.size + 1, 0, none⟩) 4 4] 101)) (.cells #[.slice none 0 0, .slice (some ⟨w.heap.size + 1 + 1, 0, none⟩) 1 1, .slice (some ⟨w.heap.size, 0, none⟩) 1 1] 75)
  have rl := row_one (T := tLink) (w := w) (Z := fun b => w.heap.size ≤ b) (x := ⟨⟨#[108]⟩, ⟨#[112]⟩, 3⟩) (cs := [.string ⟨#[108]⟩, .string ⟨#[112]⟩, .int .i64 3]) (ty := 103) rfl (Nat.le_refl _)
  have hz1 : (w.alloc (.cells #[.string ⟨#[108]⟩, .string ⟨#[112]⟩, .int .i64 3] 103)).heap.size = w.heap.size + 1 := by simp
  have hz2 : ((w.alloc (.cells #[.string ⟨#[108]⟩, .string ⟨#[112]⟩, .int .i64 3] 103)).alloc (.cells #[.int .u8 98, .int .u8 49, .int .u8 97, .int .u8 50] 5 (4, 5))).heap.size = w.heap.size + 1 + 1 := by simp
  have bb := bytes_new (w.alloc (.cells #[.string ⟨#[108]⟩, .string ⟨#[112]⟩, .int .i64 3] 103)) ⟨#[98, 49, 97, 50]⟩ 5 (C := #[.int .u8 98, .int .u8 49, .int .u8 97, .int .u8 50]) (fr := (4, 5)) rfl rfl rfl
  rw [hz1] at bb
  have rd := row_one (T := tDump) (w := (w.alloc (.cells #[.string ⟨#[108]⟩, .string ⟨#[112]⟩, .int .i64 3] 103)).alloc (.cells #[.int .u8 98, .int .u8 49, .int .u8 97, .int .u8 50] 5 (4, 5))) (Z := fun b => w.heap.size ≤ b) (x := ⟨⟨⟨#[109]⟩, 3, 1, 1, 2⟩, ⟨#[98, 49, 97, 50]⟩⟩) (cs := [.string ⟨#[109]⟩, .int .i64 3, .int .i64 1, .int .i64 1, .int .i64 2, .slice (some ⟨w.heap.size + 1, 0, none⟩) 4 4]) (ty := 101) ⟨_, _, rfl, Nat.le_refl _, bb.kept k2 (fun _ _ _ e => e), fun b o _ e => by cases e; exact Nat.le_succ _⟩ (by rw [hz2]; show w.heap.size ≤ w.heap.size + 1 + 1; omega)
  rw [hz2] at rd
  exact ⟨none, 0, _, 1, _, 1, rfl, Nat.le_refl _, Nat.le_refl _, Nat.le_refl _, RowZ.nil, rd.keep k3, ((rl.keep k1).keep k2).keep k3⟩
theorem sh18_world (w : World) : ∃ w2, (((w.alloc (.cells #[.string ⟨#[108]⟩, .string ⟨#[112]⟩, .int .i64 3] 103)).alloc (.cells #[.int .u8 98, .int .u8 49, .int .u8 97, .int .u8 50] 5 (4, 5))).alloc (.cells #[.string ⟨#[109]⟩, .int .i64 3, .int .i64 1, .int .i64 1, .int .i64 2, .slice (some ⟨w.heap.size + 1, 0, none⟩) 4 4] 101)).alloc (.cells #[.slice none 0 0, .slice (some ⟨w.heap.size + 1 + 1, 0, none⟩) 1 1, .slice (some ⟨w.heap.size, 0, none⟩) 1 1] 75) = w2 ∧ Kept (fun _ => False) w w2 ∧ ImgAt w2 (fun b => w.heap.size ≤ b) (.agg #[.slice none 0 0, .slice (some ⟨w.heap.size + 1 + 1, 0, none⟩) 1 1, .slice (some ⟨w.heap.size, 0, none⟩) 1 1]) sh18 ∧ (∀ i, w2.cell? ⟨w.heap.size + 1 + 1 + 1, i, none⟩ = (#[.slice none 0 0, .slice (some ⟨w.heap.size + 1 + 1, 0, none⟩) 1 1, .slice (some ⟨w.heap.size, 0, none⟩) 1 1] : Array Value)[i]?) ∧ w.heap.size + 1 + 1 + 1 < w2.heap.size := by
  refine ⟨_, rfl, ?_, sh18_at w, fun i => ?_, by simp⟩
  · exact ((((Kept.one_alloc w _).trans (Kept.one_alloc _ _) (fun _ _ e => e)).trans (Kept.one_alloc _ _) (fun _ _ e => e)).trans (Kept.one_alloc _ _) (fun _ _ e => e))
  · have h := World.cell?_alloc_new (((w.alloc (.cells #[.string ⟨#[108]⟩, .string ⟨#[112]⟩, .int .i64 3] 103)).alloc (.cells #[.int .u8 98, .int .u8 49, .int .u8 97, .int .u8 50] 5 (4, 5))).alloc (.cells #[.string ⟨#[109]⟩, .int .i64 3, .int .i64 1, .int .i64 1, .int .i64 2, .slice (some ⟨w.heap.size + 1, 0, none⟩) 4 4] 101)) #[.slice none 0 0, .slice (some ⟨w.heap.size + 1 + 1, 0, none⟩) 1 1, .slice (some ⟨w.heap.size, 0, none⟩) 1 1] 75 i
    rw [show (((w.alloc (.cells #[.string ⟨#[108]⟩, .string ⟨#[112]⟩, .int .i64 3] 103)).alloc (.cells #[.int .u8 98, .int .u8 49, .int .u8 97, .int .u8 50] 5 (4, 5))).alloc (.cells #[.string ⟨#[109]⟩, .int .i64 3, .int .i64 1, .int .i64 1, .int .i64 2, .slice (some ⟨w.heap.size + 1, 0, none⟩) 4 4] 101)).heap.size = w.heap.size + 1 + 1 + 1 from by simp] at h
    exact h
theorem nil_small : (⟨[], [], []⟩ : GI).small := ⟨Nat.zero_le _, Nat.zero_le _, Nat.zero_le _, fun p hp => (by cases hp), fun d hd => (by cases hd)⟩
end Go.Proofs.YtdkcnigghcbnpaaGreat

/- law18.shown: one small image, walked whole. -/
namespace Go.Proofs.YtdkcnigghcbnpaaGreat
set_option linter.unusedVariables false
set_option linter.unusedSimpArgs false
open Go.RowKit Go.MapKept

theorem app_cell (w : World) (o : Obj) (j : Nat) (u : Value) (hj : ([.int .u8 0] : List Value)[j]? = some u) : ((w.alloc o).alloc (.cells #[.int .u8 0] 5)).cell? ⟨w.heap.size + 1, j, none⟩ = some u := by
  have h := World.cell?_alloc_new (w.alloc o) #[.int .u8 0] 5 j
  rw [show (w.alloc o).heap.size = w.heap.size + 1 from by simp] at h
  rw [h]
  simpa using hj
set_option maxRecDepth 100000 in
set_option maxHeartbeats 4000000 in
theorem shown18_any (W : World) : Calls Tryz.prog 32 #[] W fun e w' => e = .returned (.bool true) ∧ Kept (fun _ => False) W w' := by
  have hc2 := cw18
  go_enter Tryz.func32, Tryz.ntmps32
  go_wp2_with fail
  refine (encode_right (x := ⟨[], [], []⟩) (Z := fun _ => False) ImgAt.nil nil_small (fun d h => by cases h) nil_right).mono ?_
  rintro e w1 ⟨k1, sv, rfl, hown, hb⟩
  obtain ⟨ba, bc, rfl, -, -, -⟩ := own_u8 hown
  rw [nil_len]
  have K1 := Lib.hid k1
  clear k1 hown hb
  obtain ⟨w2, hw2, k12, hat, hx, hxl⟩ := sh18_world w1
  go_wp2_with fail
  refine (encode_right hat sh18_small sh18_d5 sh18_right).mono ?_
  rintro e w3 ⟨k3, sv, rfl, hown, hb⟩
  obtain ⟨q, hq⟩ : ∃ q, w1.heap.size = q := ⟨_, rfl⟩
  rw [hq] at hat hx hxl ⊢
  obtain ⟨a, c, rfl, hc, hby, hbo⟩ := own_u8 hown
  obtain ⟨n, hn⟩ : ∃ n, (encI sh18).length = n := ⟨_, rfl⟩
  have hn7 : (encI sh18).length ≤ 700000 := enc_len sh18_right sh18_d5
  rw [hn] at hown hn7 hc hb ⊢
  have hx3 : ∀ W', Kept (fun b => (Value.slice a n c).ownBlock = some b) w3 W' → ∀ i v, ([.slice none 0 0, .slice (some ⟨q + 1 + 1, 0, none⟩) 1 1, .slice (some ⟨q, 0, none⟩) 1 1] : List Value)[i]? = some v → W'.cell? ⟨q + 1 + 1 + 1, i, none⟩ = some v := fun W' k i v hv => (k.cell (p := ⟨q + 1 + 1 + 1, i, none⟩) (Nat.lt_of_lt_of_le hxl k3.size) (fun e => by have := hb (q + 1 + 1 + 1) e; omega)).trans ((k3.cell (p := ⟨q + 1 + 1 + 1, i, none⟩) hxl (fun e => e)).trans ((hx i).trans (by rw [← hv, ← List.getElem?_toArray])))
  have hatk : ∀ W', Kept (fun b => (Value.slice a n c).ownBlock = some b) w3 W' → ImgAt W' (fun b => q ≤ b) (.agg #[.slice none 0 0, .slice (some ⟨q + 1 + 1, 0, none⟩) 1 1, .slice (some ⟨q, 0, none⟩) 1 1]) sh18 := fun W' k => (((hat.mono (Z' := fun b => q ≤ b ∧ b < w2.heap.size) (fun b hb hz => ⟨hz, hb⟩)).keep k3).kept k (fun b _ hz e => by have := hb b e; have := hz.2; omega)).mono (fun b _ hz => hz.1)
  have hbW : ∀ b, (Value.slice a n c).ownBlock = some b → W.heap.size ≤ b := fun b e => Nat.le_trans K1.out.size (Nat.le_trans k12.size (hb b e))
  have HBW := Lib.hid hbW
  have A := Lib.hid (And.intro hx3 (And.intro hatk (And.intro hown (And.intro hby (And.intro hn (K1.out.trans (k12.trans k3 (fun _ _ e => e)) (fun _ _ e => e)))))))
  have hcn : n ≤ c := hc
  have HN7 := Lib.hid (And.intro hn7 hcn)
  clear k12 hat hx hxl k3 hx3 hatk hbW hown hby hb hbo hw2 hq hc2 hn hn7 hc hcn K1
  go_wp2_with fail
  rw [← A.out.2.2.2.2.1]
  refine (decode_row A.out.2.2.2.1 (by rw [A.out.2.2.2.2.1]; exact HN7.out.2) (by rw [A.out.2.2.2.2.1]; exact Nat.le_trans HN7.out.1 (by decide))).mono ?_
  rintro e w4 ⟨k4, ⟨y, v, hd, rfl, hy⟩ | ⟨hd, -⟩⟩
  case' inr =>
    rw [dec_enc sh18_right] at hd
    cases hd
  rw [dec_enc sh18_right] at hd
  obtain rfl := Option.some.inj hd
  obtain ⟨pa, pc, da, dc, la, lc, rfl, -, -, -, -, hyd, hyl⟩ := hy
  obtain ⟨db, dofs, ga, gc, rfl, hdb1, hdb2, -, hgz, -, -, -, -, -, hgd⟩ := hyd.dump (i := 0) rfl
  obtain ⟨lb, lo, rfl, hlb1, hlb2, -, -, hver⟩ := hyl.link (i := 0) rfl
  have HDB := Lib.hid (show db < w4.heap.size ∧ w3.heap.size ≤ db ∧ lb < w4.heap.size ∧ w3.heap.size ≤ lb from ⟨hdb1, hdb2, hlb1, hlb2⟩)
  clear hdb1 hdb2 hlb1 hlb2
  have hp0 : sh18.P.length = 0 := rfl
  have hd1 : sh18.D.length = 1 := rfl
  have hl1 : sh18.L.length = 1 := rfl
  rw [hp0, hd1, hl1, A.out.2.2.2.2.1]
  clear hp0 hd1 hl1
  have HK4 := Lib.hid k4
  have kq1 := Kept.one_alloc w4 (.cells #[.slice pa 0 pc, .slice (some ⟨db, dofs, none⟩) 1 dc, .slice (some ⟨lb, lo, none⟩) 1 lc] 75)
  have kq2 := Kept.one_alloc (w4.alloc (.cells #[.slice pa 0 pc, .slice (some ⟨db, dofs, none⟩) 1 dc, .slice (some ⟨lb, lo, none⟩) 1 lc] 75)) (.cells #[.int .u8 0] 5)
  have hrow := ownsRow_kept (ownsRow_kept (ownsRow_kept A.out.2.2.1 k4 (fun _ _ e => e)) kq1 (fun _ _ e => e)) kq2 (fun _ _ e => e)
  have B := Lib.hid (And.intro hrow (And.intro (k4.trans (kq1.trans kq2 (fun _ _ e => e)) (fun _ _ e => e)) (And.intro hyd (And.intro hyl (And.intro hgz (And.intro hgd hver))))))
  clear hd hrow kq1 kq2 k4 hyd hyl hgz hgd hver
  go_wp2_with (at_builtin; refine wpList_append_mine rfl _ _ imgE rfl rfl B.out.1 (some ⟨w4.heap.size + 1, 0, none⟩) 1 1 [.int .u8 0] rfl rfl (fun j u hj => ⟨_, rfl, by rw [add_zero_off]; exact app_cell _ _ j u hj⟩) (by simp [Value.oneCell']) (Nat.le_trans (Nat.add_le_add_right HN7.out.1 1) (by decide)) (by rw [Nat.mul_one]; exact Nat.le_trans (Nat.add_le_add_right HN7.out.1 1) (by decide)) ?_; intro a3 c3 w6 own6 k6 b6; have O6 := Lib.hid (And.intro own6 (And.intro k6 b6)); clear own6 k6 b6)
  have hown6 : w6.ownsRow 0 5 1 (.slice a3 (n + 1) c3) (encI sh18 ++ [0]).length (u8L (encI sh18 ++ [0])) := by
    rw [List.length_append, A.out.2.2.2.2.1, u8L_append]
    exact O6.out.1
  obtain ⟨a6, c6, e6, hc6, hby6, -⟩ := own_u8 hown6
  have hl6 : (encI sh18 ++ [0]).length = n + 1 := by rw [List.length_append, A.out.2.2.2.2.1]; rfl
  rw [hl6] at e6 hc6
  cases e6
  have HB6 := Lib.hid (And.intro hby6 hc6)
  clear hown6 hby6 hc6
  rw [← hl6]
  refine (decode_row HB6.out.1 (by rw [hl6]; exact HB6.out.2) (by rw [hl6]; exact Nat.le_trans (Nat.add_le_add_right HN7.out.1 1) (by decide))).mono ?_
  rintro e w7 ⟨k7, ⟨y, v, hd, -, -⟩ | ⟨hd, rfl⟩⟩
  · rw [dec_more sh18_right (by simp)] at hd
    cases hd
  obtain ⟨hown, k35, hyd, hyl, hgz, hgd, hver⟩ := B.out
  obtain ⟨yb, hyb⟩ : ∃ yb, w4.heap.size = yb := ⟨_, rfl⟩
  obtain ⟨w8, hw8⟩ : ∃ w8, w7.alloc (.cells #[.slice none 0 0, .slice none 0 0, .slice none 0 0] 75) = w8 := ⟨_, rfl⟩
  have kq1 := Kept.one_alloc w4 (.cells #[.slice pa 0 pc, .slice (some ⟨db, dofs, none⟩) 1 dc, .slice (some ⟨lb, lo, none⟩) 1 lc] 75)
  have kq2 := Kept.one_alloc (w4.alloc (.cells #[.slice pa 0 pc, .slice (some ⟨db, dofs, none⟩) 1 dc, .slice (some ⟨lb, lo, none⟩) 1 lc] 75)) (.cells #[.int .u8 0] 5)
  have hol : ∀ b, (Value.slice a n c).ownBlock = some b → b < w3.heap.size := fun b e => (A.out.2.2.1.lt b e).2
  have hz34 : w3.heap.size ≤ w4.heap.size := HK4.out.size
  have k78 : Kept (fun _ => False) w7 w8 := by rw [← hw8]; exact Kept.one_alloc _ _
  have k58 : Kept (fun b => (Value.slice a n c).ownBlock = some b) _ w8 := O6.out.2.1.trans (k7.trans k78 (fun _ _ e => e)) (fun _ _ e => e.elim)
  have k48 : Kept (fun b => (Value.slice a n c).ownBlock = some b) w4 w8 := ((kq1.trans kq2 (fun _ _ e => e)).mono (S' := fun b => (Value.slice a n c).ownBlock = some b) (fun _ _ e => e.elim)).trans k58 (fun _ _ e => e)
  have ky8 : Kept (fun b => (Value.slice a n c).ownBlock = some b) _ w8 := (kq2.mono (S' := fun b => (Value.slice a n c).ownBlock = some b) (fun _ _ e => e.elim)).trans k58 (fun _ _ e => e)
  have k38 : Kept (fun b => (Value.slice a n c).ownBlock = some b) w3 w8 := (HK4.out.mono (S' := fun b => (Value.slice a n c).ownBlock = some b) (fun _ _ e => e.elim)).trans k48 (fun _ _ e => e)
  have hyc : ∀ i v, ([.slice pa 0 pc, .slice (some ⟨db, dofs, none⟩) 1 dc, .slice (some ⟨lb, lo, none⟩) 1 lc] : List Value)[i]? = some v → w8.cell? ⟨yb, i, none⟩ = some v := fun i v hv => by
    rw [← hyb]
    refine (ky8.cell (p := ⟨w4.heap.size, i, none⟩) (by simp) (fun e => by have := hol w4.heap.size e; omega)).trans ?_
    rw [World.cell?_alloc_new w4 _ _ i, ← hv, ← List.getElem?_toArray]
  have hdl : w4.cell? ⟨db, dofs + 0 * 6 + 5, none⟩ = some (.slice ga 4 gc) := hgd
  have hvr : w4.cell? ⟨lb, lo + 0 * 3 + 2, none⟩ = some (.int .i64 3) := hver
  have y1 := hyc 1 _ rfl
  have y2 := hyc 2 _ rfl
  have x0 := A.out.1 w8 k38 0 _ rfl
  have x1 := A.out.1 w8 k38 1 _ rfl
  have x2 := A.out.1 w8 k38 2 _ rfl
  have hdb := Lib.hid HDB.out
  have d5 : w8.cell? ⟨db, dofs + 0 * 6 + 5, none⟩ = some (.slice ga 4 gc) := (k48.cell (p := ⟨db, dofs + 0 * 6 + 5, none⟩) HDB.out.1 (fun e => by have := hol db e; have := HDB.out.2.1; omega)).trans hdl
  have l2 : w8.cell? ⟨lb, lo + 0 * 3 + 2, none⟩ = some (.int .i64 3) := (k48.cell (p := ⟨lb, lo + 0 * 3 + 2, none⟩) HDB.out.2.2.1 (fun e => by have := hol lb e; have := HDB.out.2.2.2; omega)).trans hvr
  have hcv := (hgz.kept k48 (fun b _ hz e => by have := hol _ e; have hz : w3.heap.size ≤ b := hz; omega)).1.conv (c := gc)
  have hcv : (convert 28 9 (.slice ga 4 gc)).run Tryz.prog w8 = .ok (.string ⟨#[98, 49, 97, 50]⟩) w8 := hcv
  have R := Lib.hid (A.out.2.1 w8 k38)
  have hK : Kept (fun _ => False) W w8 := (A.out.2.2.2.2.2.trans k38 (fun b hb e => absurd hb (Nat.not_lt.2 (HBW.out b e))))
  have HKW := Lib.hid hK
  have HW8 := Lib.hid hw8
  rw [hyb]
  simp only [Nat.zero_mul, Nat.add_zero] at d5 l2
  clear hown k35 hyd hyl hgz hgd hver hol hz34 k78 k58 k48 ky8 k38 hyc hdl hvr hK kq1 kq2 hdb hw8
  go_upto_region 6 with fail
  rw [HW8.out]
  go_wp2_with fail
  refine (imgright_any R.out sh18_small).mono ?_
  rintro e w9 ⟨rfl, k9⟩
  rw [sh18_right]
  have K9 := Lib.hid (HKW.out.trans k9 (fun _ _ e => e))
  clear k9
  go_wp2_with fail
  go_ret
  exact ⟨rfl, K9.out⟩
end Go.Proofs.YtdkcnigghcbnpaaGreat
