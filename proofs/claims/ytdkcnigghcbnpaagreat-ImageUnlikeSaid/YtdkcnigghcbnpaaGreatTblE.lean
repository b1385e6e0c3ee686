/- What stands under the walks, part E. -/
import Derived.Test.YtdkcnigghcbnpaaGreatCollect
import Derived.Test.YtdkcnigghcbnpaaGreatOrd
import Derived.Test.YtdkcnigghcbnpaaGreatMapVals
import Derived.Test.YtdkcnigghcbnpaaGreatVals
import Derived.Test.YtdkcnigghcbnpaaGreatRecAll
import Derived.Test.YtdkcnigghcbnpaaGreatTblC
/- slices.SortedFunc of a hash's entries: they rise by their keys. -/
namespace Go.Proofs.YtdkcnigghcbnpaaGreat
set_option linter.unusedVariables false
set_option linter.unusedSimpArgs false
open Go.RowKit Go.MapKept Go.Sort

theorem lookT_mem' {E : List En} {x : En} (hn : (E.map (·.key)).Nodup) (hx : x ∈ E) : lookT x.key E = some x := by
  rcases split_en hn x.key with ⟨_, h, _⟩ | ⟨l1, y, l2, rfl, e, h, _⟩
  · exact (h x hx rfl).elim
  · rw [h]
    congr 1
    rw [List.map_append, List.map_cons] at hn
    simp only [List.mem_append, List.mem_cons] at hx
    rcases hx with hx | rfl | hx
    · have : x.key ∈ l1.map (·.key) := List.mem_map_of_mem hx
      grind
    · rfl
    · have : x.key ∈ l2.map (·.key) := List.mem_map_of_mem hx
      grind
theorem sortE0 : SlLaysF0.n6 Tryz.prog Tryz.sortE_ren := { Tryz.sortE with }

set_option maxRecDepth 100000 in
/-- The closure: two entries' keys, compared. -/
theorem cmpE_any (W : World) (x y : Nat) (kx ky : ByteArray) (hx : W.cell? ⟨x, 0, none⟩ = some (.string kx)) (hy : W.cell? ⟨y, 0, none⟩ = some (.string ky)) :
    Calls Tryz.prog 162 #[.pointer (some ⟨x, 0, none⟩), .pointer (some ⟨y, 0, none⟩)] W fun e w' => e = .returned (.int .i64 (keyC kx ky)) ∧ ∃ q, w' = W.drewN q := by
  have hc := fun w => Any.strings_Compare Tryz.lays106 kx ky w
  go_enter Tryz.func162, Tryz.ntmps162
  go_wp2
  go_quiet ((go_at_call 106; exact Calls.quiet_of_same (hc _)))
  go_wp2
  go_ret
  exact ⟨rfl, _, rfl⟩

theorem kept_sortWorld {α : Type} [Inhabited α] (enc : α → Value) (W : World) (g m : Nat) (d : Array α) (os : Array Obj) : Kept (fun b => b = g) W (sortWorld enc W g 0 m d os) := by
  refine ⟨rfl, rfl, rfl, by simp [sortWorld], fun k hk hn => ?_⟩
  unfold sortWorld
  rw [heap_grow_old _ _ (by simpa using hk)]
  show (W.heap.modify g _)[k]? = _
  rw [Array.getElem?_modify, if_neg (fun e => hn e.symm)]
theorem own_sorted {α : Type} [Inhabited α] (enc : α → Value) {W : World} {e g n c : Nat} {vals : List Value} (h : W.ownsRow 0 e 1 (.slice (some ⟨g, 0, none⟩) n c) n vals) (m : Nat) (d : Array α) (hd : d.size = n) (os : Array Obj) :
    (sortWorld enc W g 0 m d os).ownsRow 0 e 1 (.slice (some ⟨g, 0, none⟩) n c) n (d.toList.map enc) := by
  rcases h.2 with ⟨h1, _⟩ | ⟨g', cap, cur, h1, hb, hg, hn, hc, hs, ht⟩
  · cases h1
  · cases h1
    have hlt := (Array.getElem?_eq_some_iff.1 hg).1
    refine ⟨by simp [hd], .inr ⟨g, c, putCells enc 0 d cur, rfl, hb, ?_, hn, hc, by simp [putCells, hs], ?_⟩⟩
    · unfold sortWorld
      rw [heap_grow_old _ _ (by simpa using hlt)]
      show (W.heap.modify g _)[g]? = _
      rw [Array.getElem?_modify, if_pos rfl]
      show Option.map _ (W.heap[g]?) = _
      rw [hg]
      rfl
    · apply List.ext_getElem?
      intro i
      by_cases hi : i < n
      · have hi2 : i < cur.size := by omega
        rw [List.getElem?_take_of_lt (by omega)]
        simp only [putCells, Array.getElem?_toList, Array.getElem?_mapIdx, List.getElem?_map, Array.getElem?_eq_getElem hi2, Option.map_some]
        rw [if_pos ⟨by omega, by omega⟩, Array.getElem?_eq_getElem (by omega : i < d.size), Option.map_some, Nat.sub_zero, getElem!_pos d i (by omega)]
      · rw [List.getElem?_eq_none (by simp; omega), List.getElem?_eq_none (by simp; omega)]

theorem cmpE_enters (args : Array Value) (w : World) : (callFunc 162 args).run Tryz.prog w = .ok (.enter 162 args) w := by
  exact enters_body Tryz.func162 (by kernel_rfl) rfl args w
theorem sort_any (E : List En) (W : World) (hn : (E.map (·.key)).Nodup) (hcell : ∀ x ∈ E, W.cell? ⟨x.b, 0, none⟩ = some (.string x.key) ∧ x.b < W.heap.size) (sv : Value) (hown : W.ownsRow 0 41 1 sv E.length (E.map fun x => .pointer (some ⟨x.b, 0, none⟩)))
    (hsep : ∀ b, sv.ownBlock = some b → ∀ x ∈ E, x.b ≠ b) (hN : E.length ≤ 1000000) :
    Calls Tryz.prog 165 #[sv, .func (.func 162) #[] #[]] W fun e w' => e = .returned (.tuple #[]) ∧ w'.ownsRow 0 41 1 sv E.length ((sortK (·.key) E).map fun x => .pointer (some ⟨x.b, 0, none⟩)) ∧ Kept (fun b => sv.ownBlock = some b) W w' := by
  obtain ⟨a, c, rfl, hg, -, hnc⟩ := own_form hown
  by_cases h0 : E = []
  · subst h0
    refine (AnyF.slices_SortFunc_none sortE0 a c _ W).mono ?_
    rintro e w' ⟨rfl, rfl⟩
    exact ⟨rfl, hown, .refl _ _⟩
  · have hpos : 0 < E.length := List.length_pos_iff.2 h0
    obtain ⟨g, rfl⟩ := hg hpos
    haveI : Inhabited { x // x ∈ E } := ⟨⟨E[0], List.getElem_mem _⟩⟩
    have hrow := own_row hown
    have hlt := hrow.lt
    have hdl : E.attach.toArray.size = E.length := by simp
    have hatt : ∀ j (hj : j < E.length), (E.attach.toArray[j]!).1 = E[j] := by
      intro j hj
      rw [getElem!_pos _ j (by simpa using hj)]
      simp
    have hcmp : CmpLays1 Tryz.prog 162 #[] (fun x : { x // x ∈ E } => .pointer (some ⟨x.1.b, 0, none⟩)) (fun x y => keyC x.1.key y.1.key) g 0 E.attach.toArray.size W := by
      refine CmpReads.lays (fun m os dk hs x y => ?_)
      have hk := kept_sortWorld (fun x : { x // x ∈ E } => Value.pointer (some ⟨x.1.b, 0, none⟩)) W g m dk os
      have hx := hcell x.1 x.2
      have hy := hcell y.1 y.2
      exact cmpE_any _ _ _ _ _ ((hk.cell (p := ⟨x.1.b, 0, none⟩) hx.2 (hsep g rfl _ x.2)).trans hx.1) ((hk.cell (p := ⟨y.1.b, 0, none⟩) hy.2 (hsep g rfl _ y.2)).trans hy.1)
    have hO : SWO (ltOf fun x y : { x // x ∈ E } => keyC x.1.key y.1.key) :=
      ⟨fun x => keyLt_irrefl _, fun x y z h1 h2 => keyLt_trans h1 h2, fun x y z h1 h2 => keyLt_ntrans h1 h2⟩
    have hT : ∀ x y : { x // x ∈ E }, (ltOf fun x y : { x // x ∈ E } => keyC x.1.key y.1.key) x y = false → (ltOf fun x y : { x // x ∈ E } => keyC x.1.key y.1.key) y x = false → x = y := by
      intro x y h1 h2
      have he := keyLt_total h1 h2
      apply Subtype.ext
      have h3 := lookT_mem' hn x.2
      have h4 := lookT_mem' hn y.2
      rw [he, h4] at h3
      exact (Option.some.inj h3).symm
    have hH : Holds (fun x : { x // x ∈ E } => Value.pointer (some ⟨x.1.b, 0, none⟩)) W g 0 E.attach.toArray := by
      intro j hj
      have hj' : j < E.length := by simpa using hj
      refine ⟨?_, hrow.frozen _⟩
      rw [Nat.zero_add]
      show W.cell? _ = some (Value.pointer (some ⟨(E.attach.toArray[j]!).1.b, 0, none⟩))
      rw [hatt j hj']
      exact own_cell hown (by rw [List.getElem?_map, List.getElem?_eq_getElem hj']; rfl)
    have H := Any.slices_SortFunc_total Tryz.sortE (fun x : { x // x ∈ E } => Value.pointer (some ⟨x.1.b, 0, none⟩)) (fun x => rfl) (fun x y => keyC x.1.key y.1.key) hO 162 #[] g 0 c E.attach.toArray W cmpE_enters hcmp hH hlt (by rw [hdl]; omega) hT
    rw [hdl] at H
    refine H.mono ?_
    rintro e w' ⟨rfl, n, os, rfl⟩
    obtain ⟨L, hL⟩ : ∃ L, L = E.attach.toArray.toList.mergeSort (fun x y => !(ltOf fun x y : { x // x ∈ E } => keyC x.1.key y.1.key) y x) := ⟨_, rfl⟩
    rw [← hL]
    have hLp : L.Perm E.attach := by rw [hL]; simpa using List.mergeSort_perm _ _
    have hLv : L.map (·.1) = sortK (·.key) E := by
      have hp1 : (L.map (·.1)).Perm E := by
        have := hLp.map (·.1)
        rwa [List.attach_map_subtype_val] at this
      refine rises_unique (hp1.trans (sortK_perm E).symm) ?_ (sortK_rises hn)
      unfold Rises
      rw [List.pairwise_map]
      have hs : L.Pairwise (fun x y => (!(ltOf fun x y : { x // x ∈ E } => keyC x.1.key y.1.key) y x) = true) := by
        rw [hL]
        refine List.pairwise_mergeSort (fun x y z h1 h2 => ?_) (fun x y => ?_) _
        · simp only [Bool.not_eq_true'] at h1 h2 ⊢
          exact keyLt_ntrans h2 h1
        · simp only [Bool.or_eq_true, Bool.not_eq_true']
          cases h : (ltOf fun x y : { x // x ∈ E } => keyC x.1.key y.1.key) y x with
          | false => exact .inl rfl
          | true => exact .inr (keyLt_asymm h)
      have hnd : L.Pairwise (fun x y => x.1.key ≠ y.1.key) := by
        have h1 : ((L.map (·.1)).map (·.key)).Nodup := ((hp1.map (·.key)).nodup_iff).2 hn
        unfold List.Nodup at h1
        rw [List.pairwise_map, List.pairwise_map] at h1
        exact h1
      refine hs.imp₂ (fun x y h1 h2 => ?_) hnd
      simp only [Bool.not_eq_true'] at h1
      cases h3 : keyLt x.1.key y.1.key with
      | true => rfl
      | false => exact (h2 (keyLt_total h3 h1)).elim
    refine ⟨rfl, ?_, (kept_sortWorld _ W g n L.toArray os).mono fun b _ e => by rw [e]; rfl⟩
    have h1 := own_sorted (fun x : { x // x ∈ E } => Value.pointer (some ⟨x.1.b, 0, none⟩)) hown n L.toArray (by have := hLp.length_eq; simpa using this) os
    have h2 : (sortK (·.key) E).map (fun x => Value.pointer (some ⟨x.b, 0, none⟩)) = L.toArray.toList.map (fun x : { x // x ∈ E } => Value.pointer (some ⟨x.1.b, 0, none⟩)) := by
      rw [← hLv, List.map_map]
      rfl
    rw [h2]
    exact h1
end Go.Proofs.YtdkcnigghcbnpaaGreat

/- all of a hash: its entries, rising by their keys. -/
namespace Go.Proofs.YtdkcnigghcbnpaaGreat
set_option linter.unusedVariables false
set_option linter.unusedSimpArgs false
open Go.RowKit Go.MapKept

section
variable {E : List En} {W : World} {hm : Nat}
theorem sortK_same {E' : List En} (hp : E'.Perm E) (hn : (E.map (·.key)).Nodup) : sortK (·.key) E' = sortK (·.key) E :=
  rises_unique ((sortK_perm E').trans (hp.trans (sortK_perm E).symm)) (sortK_rises (((hp.map (·.key)).nodup_iff).2 hn)) (sortK_rises hn)
set_option maxRecDepth 100000 in
theorem sortedFunc_any (bx : Nat) (hR : MapRd bx hm (hEnts E) W) (hn : (E.map (·.key)).Nodup) (hcell : ∀ x ∈ E, W.cell? ⟨x.b, 0, none⟩ = some (.string x.key) ∧ x.b < W.heap.size) (hN : E.length ≤ 1000000) :
    Calls Tryz.prog 160 #[.func (.func 166) #[] #[.pointer (some ⟨bx, 0, none⟩)], .func (.func 162) #[] #[]] W fun e w' =>
      ∃ sv, e = .returned sv ∧ w'.ownsRow 0 41 1 sv E.length ((sortK (·.key) E).map fun x => .pointer (some ⟨x.b, 0, none⟩)) ∧ (∀ b, sv.ownBlock = some b → W.heap.size ≤ b) ∧ Kept (fun _ => False) W w' := by
  have hc := collect_any (fun x : Ent ByteArray Unit => x.b) (mvals1 bx hm (hEnts E)) mvals_enters W hR (fun b hb => hb.elim (fun e => by rw [e]; exact hR.2.1) (fun e => by rw [e]; exact hR.2.2.lt)) (fun W W' h k => h.kept k (fun e => e (.inl rfl)) (fun e => e (.inr rfl))) E.length hN (fun l hl => by rw [hl.length_eq]; simp [hEnts])
  have HC := Lib.hid hc
  have HN := Lib.hid hn
  have HE := Lib.hid hcell
  have HL := Lib.hid hN
  clear hc hn hcell hR hN
  go_enter Tryz.func160, Tryz.ntmps160
  go_wp2_with fail
  refine HC.out.mono ?_
  rintro e w1 ⟨sv, items, rfl, hperm, hrow, hsv, k1⟩
  obtain ⟨E', hp, hkv⟩ := perm_lift (fun x : Ent ByteArray Unit => (x.k, x.b)) (fun x : En => (x.key, x.b)) items E (by
    have := hperm.map (fun x : Ent ByteArray Unit => (x.k, x.b))
    unfold hEnts at this
    rw [List.map_map] at this
    exact this)
  have hlen : items.length = E'.length := by simpa using congrArg List.length hkv
  have hptr : items.map (fun x => Value.pointer (some ⟨x.b, 0, none⟩)) = E'.map fun x => Value.pointer (some ⟨x.b, 0, none⟩) := by
    have := congrArg (List.map fun p : ByteArray × Nat => Value.pointer (some ⟨p.2, 0, none⟩)) hkv
    rw [List.map_map, List.map_map] at this
    exact this
  rw [hlen, hptr] at hrow
  have hs := sort_any E' w1 (((hp.map (·.key)).nodup_iff).2 HN.out) (fun x hx => by
    have h := HE.out x (hp.mem_iff.1 hx)
    exact ⟨(k1.cell (p := ⟨x.b, 0, none⟩) h.2 (fun e => e)).trans h.1, Nat.lt_of_lt_of_le h.2 k1.size⟩) sv hrow (fun b hb x hx e => by
    have h := (HE.out x (hp.mem_iff.1 hx)).2
    have := hsv b hb
    omega) (by rw [hp.length_eq]; exact HL.out)
  rw [sortK_same hp HN.out, hp.length_eq] at hs
  have HS := Lib.hid hs
  have HK := Lib.hid (And.intro hsv k1)
  clear hs hrow hptr hlen hp hkv hperm hsv k1 HC
  go_wp2_with fail
  refine HS.out.mono ?_
  rintro e w2 ⟨rfl, h2, k2⟩
  have H2 := Lib.hid (And.intro h2 k2)
  clear h2 k2 HS
  go_wp2_with fail
  go_ret
  refine ⟨sv, rfl, H2.out.1, HK.out.1, ?_⟩
  exact Kept.none ((HK.out.2.mono (S' := fun b => W.heap.size ≤ b) (fun _ _ e => e.elim)).trans H2.out.2 (fun b _ e => HK.out.1 b e))
set_option maxRecDepth 100000 in
theorem hash_all_any (ht : Tab strK W hm (hEnts E)) (hn : (E.map (·.key)).Nodup) (hcell : ∀ x ∈ E, W.cell? ⟨x.b, 0, none⟩ = some (.string x.key) ∧ x.b < W.heap.size) (hN : E.length ≤ 1000000) :
    Calls Tryz.prog 154 #[.map (some hm)] W fun e w' => ∃ bx sv, e = .returned (.func (.func 163) #[] #[.pointer (some ⟨bx, 0, none⟩)]) ∧ RowRd bx sv ((sortK (·.key) E).map (·.b)) w' ∧ (∀ b, sv.ownBlock = some b → W.heap.size ≤ b) ∧ W.heap.size ≤ bx ∧ Kept (fun _ => False) W w' := by
  have HT := Lib.hid (And.intro ht (And.intro hn (And.intro hcell hN)))
  clear ht hn hcell hN
  go_enter Tryz.func154, Tryz.ntmps154
  go_wp2_with fail
  refine (mvals_any hm W).mono ?_
  rintro e w1 ⟨bx1, rfl, hb1, k1, g1⟩
  have hs := sortedFunc_any (E := E) (hm := hm) bx1 ⟨hb1.cell, hb1.lt, HT.out.1.kept k1 (fun e => e)⟩ HT.out.2.1 (fun x hx => by
    have h := HT.out.2.2.1 x hx
    exact ⟨(k1.cell (p := ⟨x.b, 0, none⟩) h.2 (fun e => e)).trans h.1, Nat.lt_of_lt_of_le h.2 k1.size⟩) HT.out.2.2.2
  have HS := Lib.hid hs
  have K1 := Lib.hid k1
  clear hs hb1 k1 g1
  go_wp2_with fail
  refine HS.out.mono ?_
  rintro e w2 ⟨sv, rfl, hrow, hsv, k2⟩
  obtain ⟨a, c, rfl, -, -, -⟩ := own_form hrow
  have HR := Lib.hid (And.intro hrow (And.intro hsv k2))
  have HV := Lib.hid (VE.values_any a E.length c w2)
  clear hrow hsv k2 HS
  generalize E.length = n at HV HR ⊢
  go_wp2_with fail
  refine HV.out.mono ?_
  rintro e w3 ⟨bx, rfl, hb, k3, g3⟩
  have H3 := Lib.hid (And.intro hb (And.intro k3 g3))
  clear hb k3 g3
  go_wp2_with fail
  go_ret
  obtain ⟨hb, k3, g3⟩ := H3.out
  obtain ⟨hrow, hsv, k2⟩ := HR.out
  have hl : ((sortK (·.key) E).map (·.b)).length = n := by have := hrow.1; simpa using this
  refine ⟨bx, _, rfl, ⟨hb.cell, hb.lt, ?_⟩, fun b e => Nat.le_trans K1.out.size (hsv b e), by have := K1.out.size; have := k2.size; omega, (K1.out.trans k2 (fun _ _ e => e)).trans k3 (fun _ _ e => e)⟩
  rw [hl, List.map_map]
  exact ownsRow_kept hrow k3 (fun _ _ e => e)
end
end Go.Proofs.YtdkcnigghcbnpaaGreat

/- all of a table, whatever the kind, through its interface. -/
namespace Go.Proofs.YtdkcnigghcbnpaaGreat
set_option linter.unusedVariables false
set_option linter.unusedSimpArgs false
open Go.RowKit Go.MapKept

/-- A table's entries, in the document's order. -/
def ordT (m : TM) (E : List En) : List En := if m.kd = 2 then sortK (·.key) E else E
theorem ordT_perm (m : TM) (E : List En) : (ordT m E).Perm E := by
  unfold ordT
  split
  · exact sortK_perm E
  · exact .refl _

/-- What whoever ranges over a table reads of it: all but the bytes. -/
structure AllR (W : World) (bt : Nat) (m : TM) (iv : Value) (E : List En) (F : Nat → Prop) : Prop where
  right : m.right = true
  lt : bt < W.heap.size
  c5 : W.cell? ⟨bt, 5, none⟩ = some iv
  kind : KindAt W m iv E F
  en : ∀ x ∈ E, W.cell? ⟨x.b, 0, none⟩ = some (.string x.key) ∧ W.cell? ⟨x.b, 1, none⟩ = some (.slice (some ⟨x.d, 0, none⟩) x.data.size x.c) ∧ x.b < W.heap.size
  keys : (E.map (·.key)).Nodup
  blocks : (E.flatMap fun x => [x.b, x.d]).Nodup
  len : (E.length : Int) ≤ m.mx
def AllD (bt : Nat) (E : List En) (F : Nat → Prop) (b : Nat) : Prop := b = bt ∨ F b ∨ ∃ x ∈ E, x.b = b
section
variable {W W' : World} {bt : Nat} {m : TM} {iv : Value} {E : List En} {F : Nat → Prop}
theorem Tb.allR (h : Tb W bt m iv E F) : AllR W bt m iv E F :=
  ⟨h.right, h.row.lt, h.c5, h.kind, fun x hx => ⟨(h.en x hx).key, (h.en x hx).sl, (h.en x hx).row.lt⟩, h.keys, h.blocks, h.len⟩
theorem AllR.kept {S : Nat → Prop} (h : AllR W bt m iv E F) (q : Kept S W W') (hS : ∀ b, AllD bt E F b → ¬ S b) : AllR W' bt m iv E F :=
  ⟨h.right, Nat.lt_of_lt_of_le h.lt q.size, (q.cell (p := ⟨bt, 5, none⟩) h.lt (hS bt (.inl rfl))).trans h.c5, h.kind.kept q (fun b hf => hS b (.inr (.inl hf))),
    fun x hx => ⟨(q.cell (p := ⟨x.b, 0, none⟩) (h.en x hx).2.2 (hS _ (.inr (.inr ⟨x, hx, rfl⟩)))).trans (h.en x hx).1, (q.cell (p := ⟨x.b, 1, none⟩) (h.en x hx).2.2 (hS _ (.inr (.inr ⟨x, hx, rfl⟩)))).trans (h.en x hx).2.1, Nat.lt_of_lt_of_le (h.en x hx).2.2 q.size⟩, h.keys, h.blocks, h.len⟩
theorem AllR.dlt (h : AllR W bt m iv E F) : ∀ b, AllD bt E F b → b < W.heap.size := by
  rintro b (rfl | hf | ⟨x, hx, rfl⟩)
  · exact h.lt
  · exact h.kind.lt h.right b hf
  · exact (h.en x hx).2.2
theorem AllR.small (h : AllR W bt m iv E F) : E.length ≤ 1024 := by
  have hr := (rightB_iff _ _ _ _ _).1 h.right
  have := h.len
  omega

theorem ml_all (n : Nat) (p : Value) (w : World) : (method (n + 1) 166 (.agg #[p]) "swingbridge/table.all").run Tryz.prog w = .ok (183, .agg #[p]) w := by kernel_rfl
theorem mh_all (n : Nat) (p : Option Nat) (w : World) : (method (n + 1) 162 (.map p) "swingbridge/table.all").run Tryz.prog w = .ok (154, .map p) w := by kernel_rfl
theorem ma_all (n : Nat) (a : Option Addr) (l c : Nat) (w : World) : (method (n + 1) 168 (.slice a l c) "swingbridge/table.all").run Tryz.prog w = .ok (201, .slice a l c) w := by kernel_rfl

/-- What all hands back: an iterator over the entries' places. -/
def AllPost (W : World) (m : TM) (E : List En) (F : Nat → Prop) (e : Ending) (w' : World) : Prop :=
  ∃ gf lb D Rd, e = .returned (.func (.func gf) #[] lb) ∧ (∀ args w, (callFunc gf args).run Tryz.prog w = .ok (.enter gf args) w) ∧ IterG Tryz.prog gf lb (fun b : Nat => #[.pointer (some ⟨b, 0, none⟩)]) (fun l => l = (ordT m E).map (·.b)) D Rd ∧ Rd w' ∧
    (∀ b, D b → (F b ∨ W.heap.size ≤ b) ∧ b < w'.heap.size) ∧ (∀ W1 W2, Rd W1 → Kept (fun b => ¬ D b) W1 W2 → Rd W2) ∧ Kept (fun _ => False) W w'

set_option maxRecDepth 100000 in
theorem arr_all_any (a : Option Addr) (n c : Nat) (w : World) :
    Calls Tryz.prog 201 #[.slice a n c] w fun e w' => ∃ bx, e = .returned (.func (.func 208) #[] #[.pointer (some ⟨bx, 0, none⟩)]) ∧ Box w' bx (.slice a n c) ∧ Kept (fun _ => False) w w' ∧ w.heap.size ≤ bx := by
  have HV := Lib.hid (VA.values_any a n c w)
  go_enter Tryz.func201, Tryz.ntmps201
  go_wp2_with fail
  refine HV.out.mono ?_
  rintro e w1 ⟨bx, rfl, h⟩
  have H := Lib.hid h
  clear h HV
  go_wp2_with fail
  go_ret
  exact ⟨bx, rfl, H.out⟩
theorem all_of (h : AllR W bt m iv E F) : ∃ T r fal, iv = .iface T r ∧ (∀ n w, (method (n + 1) T r "swingbridge/table.all").run Tryz.prog w = .ok (fal, r) w) ∧ (∀ args w, (callFunc fal args).run Tryz.prog w = .ok (.enter fal args) w) ∧ Calls Tryz.prog fal #[r] W (AllPost W m E F) := by
  have h3 := (rightB_iff _ _ _ _ _).1 h.right
  rcases (by omega : m.kd = 1 ∨ m.kd = 2 ∨ m.kd = 3) with hk | hk | hk
  · obtain ⟨sv, rfl, hown, rfl⟩ := h.kind.a hk
    obtain ⟨a, c, rfl, -, -, -⟩ := own_form hown
    refine ⟨_, _, 201, rfl, fun n w => ma_all n a _ c w, enters_body Tryz.func201 (by kernel_rfl) rfl, (arr_all_any a _ c W).mono ?_⟩
    rintro e w' ⟨bx, rfl, hb, k, g⟩
    have hord : ordT m E = E := by unfold ordT; rw [if_neg (by omega)]
    refine ⟨_, _, (fun b => b = bx ∨ (Value.slice a E.length c).ownBlock = some b), RowRd bx (.slice a E.length c) (E.map (·.b)), rfl, VA.values_enters, ?_, ⟨hb.cell, hb.lt, ?_⟩, ?_, fun W1 W2 hr kk => hr.kept kk (fun e => e (.inl rfl)) (fun b hb e => e (.inr hb)), k⟩
    · rw [hord]
      exact VA.values1 bx (.slice a E.length c) (E.map (·.b)) (by have := h.small; simp; omega)
    · rw [List.length_map, List.map_map]
      exact ownsRow_kept hown k (fun _ _ e => e)
    · rintro b (rfl | hd)
      · exact ⟨.inr g, hb.lt⟩
      · exact ⟨.inl hd, Nat.lt_of_lt_of_le (hown.lt b hd).2 k.size⟩
  · obtain ⟨hm, rfl, ht, rfl⟩ := h.kind.h hk
    refine ⟨_, _, 154, rfl, fun n w => mh_all n (some hm) w, enters_body Tryz.func154 (by kernel_rfl) rfl, (hash_all_any ht h.keys (fun x hx => ⟨(h.en x hx).1, (h.en x hx).2.2⟩) (by have := h.small; omega)).mono ?_⟩
    rintro e w' ⟨bx, sv, rfl, hr, hsv, g, k⟩
    have hord : ordT m E = sortK (·.key) E := by unfold ordT; rw [if_pos hk]
    refine ⟨_, _, (fun b => b = bx ∨ sv.ownBlock = some b), RowRd bx sv ((sortK (·.key) E).map (·.b)), rfl, VE.values_enters, ?_, hr, ?_, fun W1 W2 hr kk => hr.kept kk (fun e => e (.inl rfl)) (fun b hb e => e (.inr hb)), k⟩
    · rw [hord]
      exact VE.values1 bx sv _ (by have := h.small; have := (sortK_perm (key := (·.key)) E).length_eq; simp; omega)
    · rintro b (rfl | hd)
      · exact ⟨.inr g, hr.2.1⟩
      · exact ⟨.inr (hsv b hd), (hr.2.2.lt b hd).2⟩
  · obtain ⟨bl, bm, ls, rfl, hl, hp, rfl⟩ := h.kind.l hk
    refine ⟨_, _, 183, rfl, fun n w => ml_all n _ w, enters_body Tryz.func183 (by kernel_rfl) rfl, (rec_all_any _ W).mono ?_⟩
    rintro e w' ⟨bx, rfl, hb, k, g⟩
    have hord : ordT m E = E := by unfold ordT; rw [if_neg (by omega)]
    have hbs : ls.map (·.v) = E.map (·.b) := by
      have := congrArg (List.map Prod.snd) hp
      rw [List.map_map, List.map_map] at this
      exact this
    have hit := IterG.map (encs' := fun b : Nat => #[.pointer (some ⟨b, 0, none⟩)]) (fun x : Ent ByteArray Nat => x.v) (fun x => rfl) (rec_all1 bx bl bm m.mx ls)
    rw [hbs] at hit
    refine ⟨_, _, (fun b => b = bx ∨ Lfp bl bm ls b), SE.Rd bx bl bm m.mx ls, rfl, rec_enters, by rw [hord]; exact hit, ⟨hb.cell, hb.lt, hl.kept k (fun _ _ e => e)⟩, ?_, fun W1 W2 hr kk => hr.kept kk (fun e => e (.inl rfl)) (fun b hb e => e (.inr hb)), k⟩
    rintro b (rfl | hd)
    · exact ⟨.inr g, hb.lt⟩
    · exact ⟨.inl hd, Nat.lt_of_lt_of_le (hl.lt b hd) k.size⟩
end
end Go.Proofs.YtdkcnigghcbnpaaGreat

/- A table's All: each entry's key and data, in the document's order. -/
namespace Go.Proofs.YtdkcnigghcbnpaaGreat
set_option linter.unusedVariables false
set_option linter.unusedSimpArgs false
open Go.RowKit Go.MapKept

/-- An entry, by its place. -/
def atB (E : List En) (b : Nat) : Option En := E.find? fun x => decide (x.b = b)
theorem atB_mem {E : List En} (hn : (E.flatMap fun x => [x.b, x.d]).Nodup) {x : En} (hx : x ∈ E) : atB E x.b = some x := by
  induction E with
  | nil => cases hx
  | cons y E ih =>
    unfold atB
    rw [List.find?_cons]
    by_cases e : y.b = x.b
    · rw [decide_eq_true e]
      rcases List.mem_cons.1 hx with h | h
      · rw [h]
      · rw [List.flatMap_cons, List.nodup_append] at hn
        exact (hn.2.2 y.b (by simp) x.b (List.mem_flatMap.2 ⟨x, h, by simp⟩) e).elim
    · rw [decide_eq_false e]
      rcases List.mem_cons.1 hx with h | h
      · exact (e (by rw [h])).elim
      · rw [List.flatMap_cons, List.nodup_append] at hn
        exact ih hn.2.1 h
theorem atB_some {E : List En} {b : Nat} {x : En} (h : atB E b = some x) : x ∈ E ∧ x.b = b := by
  unfold atB at h
  exact ⟨List.mem_of_find?_eq_some h, by simpa using List.find?_some h⟩
theorem atB_all {E L : List En} (hn : (E.flatMap fun x => [x.b, x.d]).Nodup) (h : ∀ x ∈ L, x ∈ E) : (L.map (·.b)).filterMap (atB E) = L := by
  induction L with
  | nil => rfl
  | cons x L ih =>
    rw [List.map_cons, List.filterMap_cons_some (atB_mem hn (h x (by simp))), ih (fun y hy => h y (by simp [hy]))]

/-- What All tells of an entry. -/
def encE (x : En) : Array Value := #[.string x.key, .slice (some ⟨x.d, 0, none⟩) x.data.size x.c]
/-- What whoever has the iterator of All reads. -/
def AllRd (bx bt : Nat) (m : TM) (iv : Value) (E : List En) (F : Nat → Prop) (W : World) : Prop := W.cell? ⟨bx, 0, none⟩ = some (.pointer (some ⟨bt, 0, none⟩)) ∧ bx < W.heap.size ∧ AllR W bt m iv E F
theorem AllRd.kept {bx bt : Nat} {m : TM} {iv : Value} {E : List En} {F : Nat → Prop} {S : Nat → Prop} {W W' : World} (h : AllRd bx bt m iv E F W) (k : Kept S W W') (h1 : ¬ S bx) (h2 : ∀ b, AllD bt E F b → ¬ S b) : AllRd bx bt m iv E F W' :=
  ⟨(k.cell h.2.1 h1).trans h.1, Nat.lt_of_lt_of_le h.2.1 k.size, h.2.2.kept k h2⟩

set_option maxRecDepth 100000 in
set_option maxHeartbeats 2000000 in
theorem all1_any (bx bt : Nat) (m : TM) (iv : Value) (E : List En) (F : Nat → Prop) :
    IterG Tryz.prog 49 #[.pointer (some ⟨bx, 0, none⟩)] encE (fun l => l = ordT m E) (fun b => b = bx ∨ AllD bt E F b) (AllRd bx bt m iv E F) := by
  intro l J Jx U W hJ hJx hY h0 hD hlt hR
  have hbx : W.cell? ⟨bx, 0, none⟩ = some (.pointer (some ⟨bt, 0, none⟩)) := hR.1
  have hc5 := hR.2.2.c5
  refine callsIn_of_wp_marks Tryz.func49 rfl trivial ?_ rfl
  simp only [Tryz.ntmps49, List.size_toArray, List.length_cons, List.length_nil, Nat.reduceAdd, Nat.reduceSub, Array.replicate_succ, Array.replicate_zero, List.push_toArray, List.append_toArray, List.nil_append, List.cons_append]
  have ka := Kept.one_alloc W (.cells #[.func (.yield l) #[] #[]] 122)
  have d0 := (ka.cell (p := ⟨bx, 0, none⟩) hR.2.1 (fun e => e)).trans hbx
  have d5 := (ka.cell (p := ⟨bt, 5, none⟩) hR.2.2.lt (fun e => e)).trans hc5
  have hRk := hR.kept ka (fun e => e) (fun _ _ e => e)
  have hyb := Box.new W (.func (.yield l) #[] #[]) 122
  obtain ⟨W1, hW1⟩ : ∃ W1, W1 = W.alloc (.cells #[.func (.yield l) #[] #[]] 122) := ⟨_, rfl⟩
  rw [← hW1] at ka hRk hyb
  obtain ⟨T, r, fal, rfl, hm, eg, hall⟩ := all_of hRk.2.2
  have HALL := Lib.hid hall
  have HR := Lib.hid hR
  have HD := Lib.hid hD
  have HLT := Lib.hid hlt
  have H0 := Lib.hid h0
  have HKA := Lib.hid (And.intro ka hyb)
  have HW1 := Lib.hid hW1
  clear hbx hc5 hR hD hlt h0 hall ka hRk hyb hW1
  gi_wp2_with fail
  rw [← HW1.out]
  refine callsIn_WR.2 (HALL.out.mono ?_)
  rintro e W2 ⟨gf, lb, D2, Rd2, rfl, eg2, hit, hRd2, hD2, hRk2, k2⟩
  have hnf := run_eq_nilFunc (P := Tryz.prog) W2 (.func gf) #[] lb Tryz.underlying124
  obtain ⟨yb, hyb'⟩ : ∃ yb, W.heap.size = yb := ⟨_, rfl⟩
  rw [hyb'] at HKA ⊢
  have HYB := Lib.hid hyb'
  have K2 := Lib.hid k2
  have HIT := Lib.hid (And.intro hit (And.intro eg2 (And.intro hRd2 (And.intro hD2 hRk2))))
  clear hyb' hit eg2 hRd2 hD2 hRk2 k2 d0 d5 HALL HW1
  gi_wp2_with fail
  obtain ⟨hit, eg2, hRd2, hD2, hRk2⟩ := HIT.out
  have hyb := HKA.out.2.kept K2.out (fun e => e)
  have k02 : Kept (fun _ => False) W W2 := HKA.out.1.trans K2.out (fun _ _ e => e)
  have hsz1 := HKA.out.1.size
  have hyl := HKA.out.2.lt
  refine wpW_pass (fn := Tryz.f49) (OFull := fun l => l = ordT m E) (oencs := encE) hit (by rfl) eg2 (fun _ => by rfl) (by rfl) (atB E) hJ hJx hY (fun ys e => ?_) (hJ _ _ _ _ H0.out (k02.mono fun _ _ e => e.elim)) (k02.mono fun _ _ e => e.elim) HLT.out HD.out ?_ HR.out ?_ (fun b => b = yb) ?_ (fun W => Box W yb (.func (.yield l) #[] #[])) hyb ?_ ?_ hRd2 hRk2 (fun _ _ h => h) (fun _ _ h => h) ?_
  · rw [e]
    exact atB_all HR.out.2.2.blocks (fun x hx => (ordT_perm m E).mem_iff.1 hx)
  · rintro b (rfl | h)
    · exact HR.out.2.1
    · exact HR.out.2.2.dlt b h
  · exact fun W W' h k => h.kept k (fun e => e (.inl rfl)) (fun b hb e => e (.inr hb))
  · rintro b rfl
    exact ⟨by have := HYB.out; omega, hyb.lt⟩
  · exact fun W W' h k => h.kept k (fun e => e rfl)
  · intro b hb
    obtain ⟨h1, h2⟩ := hD2 b hb
    refine ⟨h2, fun hu => ?_, fun e => ?_⟩
    · rcases h1 with h1 | h1
      · exact HD.out b hu (.inr (.inr (.inl h1)))
      · have := HLT.out b hu
        omega
    · rcases h1 with h1 | h1
      · have := HR.out.2.2.dlt b (.inr (.inl h1))
        have := HYB.out
        omega
      · omega
  · intro l' pre b rest U' W3 hitems hl' hU' hnl
    obtain ⟨x, hx, hxb⟩ : ∃ x, x ∈ E ∧ x.b = b := by
      have hb : b ∈ (ordT m E).map (·.b) := by rw [← hitems]; simp
      obtain ⟨x, hx, e⟩ := List.mem_map.1 hb
      exact ⟨x, (ordT_perm m E).mem_iff.1 hx, e⟩
    subst hxb
    have hat := atB_mem HR.out.2.2.blocks hx
    have HAT := Lib.hid (And.intro hat hx)
    clear hyb hRd2 hit eg2 hD2 hRk2 hitems hat hx hnf
    simp only [List.zip_toArray, List.zip_cons_cons, List.zip_nil_left, List.foldl_toArray', List.foldl_cons, List.foldl_nil, List.setIfInBounds_toArray, List.set_cons_succ, List.set_cons_zero]
    gi_wp2_with (rw [Oper.semAt_eq _ _ _ (fun c h => by cases h)]; go_simp; try go_bits)
    refine ⟨trivial, ?_⟩
    intro W4 hxr hrd hord hz hj hy
    obtain ⟨hc0, hc1, hlt4⟩ := hord.2.2.en x HAT.out.2
    obtain ⟨W5, hW5, t5⟩ : ∃ W5, W5 = ({ W4 with drawn := W4.drawn + 1 } : World) ∧ Twin W5 W4 := ⟨_, rfl, rfl, rfl, rfl, rfl⟩
    obtain ⟨fn, tmps, assign, body, hyy, hRR⟩ := hy x HAT.out.1 W5 ((Kept.refl _ W4).twin t5) (by rw [t5.heap])
    have hcy : W5.cell? ⟨yb, 0, none⟩ = some (.func (.yield l) #[] #[]) := (hxr.twin t5).cell
    have e0 : W5.cell? ⟨x.b, 0, none⟩ = some (.string x.key) := by obtain ⟨_, rfl⟩ := t5.eq; exact hc0
    have e1 : W5.cell? ⟨x.b, 1, none⟩ = some (.slice (some ⟨x.d, 0, none⟩) x.data.size x.c) := by obtain ⟨_, rfl⟩ := t5.eq; exact hc1
    have T5 := Lib.hid t5
    have HJ := Lib.hid (And.intro hj (And.intro hy (And.intro hord hxr)))
    unfold encE at hyy
    clear hj hy hord hxr hc0 hc1 hlt4 t5 hrd
    gi_wp2_with fail
    refine wpW_region_tail 9 (by kernel_rfl) (by kernel_rfl) ?_
    rw [← hW5]
    clear hW5
    simp only [List.take_succ_cons, List.take_zero, List.drop_succ_cons, List.drop_zero]
    iterate 9 (with_reducible refine wpStill_want (by kernel_rfl) (fun K hK => ?_); go_simp; with_reducible refine hK _ ?_; clear hK K)
    refine wpStill_nil ?_
    gi_wp2_with (rw [Oper.semAt_eq _ _ _ (fun c h => by cases h)]; go_simp; try go_bits)
    refine (roundIn_any hRR).mono ?_
    rintro e W6 ⟨U6, g6, (⟨rfl, hj6⟩ | ⟨rfl, hj6⟩)⟩
    all_goals
      have H6 := Lib.hid (And.intro (Grow.before ((Kept.refl (fun _ => False) W4).twin T5.out) g6 (fun _ e _ => e.elim)) hj6)
      clear hyy hRR g6 hj6 hcy e0 e1
      gi_wp2_with (rw [Oper.semAt_eq _ _ _ (fun c h => by cases h)]; go_simp; try go_bits)
    · refine ⟨U6, H6.out.1, ?_⟩
      have := H6.out.2
      simpa [HAT.out.1] using this
    · exact ⟨U6, H6.out.1, H6.out.2⟩

set_option maxRecDepth 100000 in
theorem all_any (bt : Nat) (w : World) :
    Calls Tryz.prog 21 #[.pointer (some ⟨bt, 0, none⟩)] w fun e w' => ∃ bx, e = .returned (.func (.func 49) #[] #[.pointer (some ⟨bx, 0, none⟩)]) ∧ Box w' bx (.pointer (some ⟨bt, 0, none⟩)) ∧ Kept (fun _ => False) w w' ∧ w.heap.size ≤ bx := by
  refine Calls.mono (R := fun e w' => e = .returned (.func (.func 49) #[] #[.pointer (some ⟨w.heap.size, 0, none⟩)]) ∧ w' = w.alloc (.cells #[.pointer (some ⟨bt, 0, none⟩)] 24)) ?_ ?_
  · go_enter Tryz.func21, Tryz.ntmps21
    go_wp2_with fail
    go_ret
    exact ⟨rfl, rfl⟩
  · rintro e w' ⟨rfl, rfl⟩
    exact ⟨_, rfl, Box.new w _ _, Kept.one_alloc w _, Nat.le_refl _⟩
theorem all_enters (args : Array Value) (w : World) : (callFunc 49 args).run Tryz.prog w = .ok (.enter 49 args) w := by
  exact enters_body Tryz.func49 (by kernel_rfl) rfl args w
end Go.Proofs.YtdkcnigghcbnpaaGreat
