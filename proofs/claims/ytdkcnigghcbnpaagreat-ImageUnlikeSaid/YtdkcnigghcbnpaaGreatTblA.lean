/- What stands under the walks, part A. -/
import Derived.Test.YtdkcnigghcbnpaaGreatRight
import Derived.Test.YtdkcnigghcbnpaaGreatLruSE
import Derived.Test.YtdkcnigghcbnpaaGreatGenC
import Derived.Laws.BytesArg
import Derived.Shelf.Bytes.SlSmallAll
import Derived.Test.YtdkcnigghcbnpaaGreatPlain
import Derived.WalkLawsBesides
import Derived.BigRegion
import Derived.Deep.QuietTactic
import Derived.BigQuiet
import Derived.Lib.Hide
/- Tables in memory: a map, its entries, how they are kept. -/
namespace Go.Proofs.YtdkcnigghcbnpaaGreat
set_option linter.unusedVariables false
set_option linter.unusedSimpArgs false
open Go.RowKit Go.MapKept

/-- The bytes of a text, as numbers. -/
def nums (k : ByteArray) : List Int := k.data.toList.map fun b => (b.toNat : Int)
theorem nums_len (k : ByteArray) : (nums k).length = k.size := by
  show (k.data.toList.map _).length = k.data.size
  simp
theorem strOf_nums (k : ByteArray) : strOfNums (nums k) = k := by
  unfold strOfNums nums
  cases k with
  | mk d =>
    congr 1
    rw [List.map_map]
    apply Array.ext'
    simp only [List.toList_toArray]
    conv => rhs; rw [← List.map_id d.toList]
    apply List.map_congr_left
    intro b hb
    simp

/-- Block b is a row of n cells, none of them frozen; it may bear the mark of a conversion, that lies behind them. -/
def RowM (w : World) (b n : Nat) : Prop := ∃ c t f, w.heap[b]? = some (.cells c t f) ∧ c.size = n ∧ (f = (0, 0) ∨ f = (n, n + 1))
theorem RowAt.rowm {w : World} {b n : Nat} (h : RowAt w b n) : RowM w b n := by
  obtain ⟨c, t, h1, h2⟩ := h
  exact ⟨c, t, _, h1, h2, .inl rfl⟩
theorem RowM.lt {w : World} {b n : Nat} (h : RowM w b n) : b < w.heap.size := by
  obtain ⟨c, t, f, h, _⟩ := h
  exact (Array.getElem?_eq_some_iff.1 h).1
theorem RowM.kept {S : Nat → Prop} {w w' : World} {b n : Nat} (h : RowM w b n) (k : Kept S w w') (hn : ¬ S b) : RowM w' b n := by
  have hl := h.lt
  obtain ⟨c, t, f, h1, h2⟩ := h
  exact ⟨c, t, f, (k.block b hl hn).trans h1, h2⟩
theorem RowM.setCell {w : World} {b n : Nat} (h : RowM w b n) (a : Addr) (v : Value) : RowM (w.setCell a v) b n := by
  obtain ⟨c, t, f, h, hn, hf⟩ := h
  by_cases e : a.block = b
  · refine ⟨if a.spot.isSome then c else c.setIfInBounds a.off v, t, f, ?_, ?_, hf⟩
    · simp only [World.setCell, Array.getElem?_modify, e, if_true, h, Option.map_some]
    · split <;> simp_all
  · exact ⟨c, t, f, (Below.heap_setCell _ _ _ _ (fun h => e h.symm)).trans h, hn, hf⟩
theorem RowM.some {w : World} {b n : Nat} (h : RowM w b n) {o : Nat} (ho : o < n) : ∃ v, w.cell? ⟨b, o, none⟩ = some v := by
  obtain ⟨c, t, f, h, hn, hf⟩ := h
  exact ⟨c[o]'(by omega), by simp [World.cell?, h]⟩
theorem RowM.isSome {w : World} {b n : Nat} (h : RowM w b n) {o : Nat} (ho : o < n) : (w.cell? ⟨b, o, none⟩).isSome = true := by
  obtain ⟨v, e⟩ := h.some ho
  simp [e]
theorem RowM.frozen {w : World} {b n : Nat} (h : RowM w b n) {o : Nat} (ho : o < n) : w.frozen? ⟨b, o, none⟩ = false := by
  obtain ⟨c, t, f, h, hn, rfl | rfl⟩ := h
  · simp [World.frozen?, h]
  · simp [World.frozen?, h]
    omega

/-- A slice of bytes in memory reads as a text. -/
def BytesAt (W : World) (a : Option Addr) (n : Nat) (k : ByteArray) : Prop :=
  n = k.size ∧ (0 < n → ∀ ad, a = some ad → ∃ b o, ad = ⟨b, o, none⟩) ∧ ∀ i, i < n → ∃ b o, a = some ⟨b, o, none⟩ ∧ b < W.heap.size ∧ W.cell? ⟨b, o + i, none⟩ = some (.int .u8 ((nums k).getD i 0))
theorem BytesAt.kept {S : Nat → Prop} {W W' : World} {a : Option Addr} {n : Nat} {k : ByteArray} (h : BytesAt W a n k) (q : Kept S W W') (hS : ∀ b o, a = some ⟨b, o, none⟩ → ¬ S b) : BytesAt W' a n k := by
  refine ⟨h.1, h.2.1, fun i hi => ?_⟩
  obtain ⟨b, o, e, hb, hc⟩ := h.2.2 i hi
  exact ⟨b, o, e, Nat.lt_of_lt_of_le hb q.size, (q.cell (p := ⟨b, o + i, none⟩) hb (hS b o e)).trans hc⟩
theorem BytesAt.twin {W W' : World} {a : Option Addr} {n : Nat} {k : ByteArray} (h : BytesAt W a n k) (t : Twin W' W) : BytesAt W' a n k :=
  h.kept ((Kept.refl (fun _ => False) W).twin t) (fun _ _ _ e => e)
theorem BytesAt.conv {W : World} {a : Option Addr} {n c : Nat} {k : ByteArray} (h : BytesAt W a n k) : (convert 28 9 (.slice a n c)).run Tryz.prog W = .ok (.string k) W := by
  by_cases h0 : 0 < n
  · obtain ⟨b0, o0, rfl, _⟩ := h.2.2 0 h0
    obtain ⟨b, o, e⟩ := h.2.1 h0 _ rfl
    cases e
    have := run_convert_bytes_arg (P := Tryz.prog) W 28 5 Tryz.underlying28 Tryz.underlying5 b0 o0 n c (nums k) (by rw [nums_len]; exact h.1.symm) (fun i hi => by
      obtain ⟨b', o', e, _, hc⟩ := h.2.2 i hi
      injection e with e
      injection e with e1 e2
      rw [e1, e2]
      exact hc) 9 Tryz.underlying9
    rw [strOf_nums] at this
    exact this
  · have hk : k = ByteArray.empty := by
      have h2 : k.data.size = 0 := by have := h.1; show k.size = 0; omega
      cases k with
      | mk d =>
        simp at h2
        rw [h2]
        rfl
    obtain rfl : n = 0 := by omega
    subst hk
    exact run_convert_bytes_zero W 28 5 Tryz.underlying28 Tryz.underlying5 a c 9 Tryz.underlying9

/-- A map, as it is told. -/
structure TM where
  nm : ByteArray
  kd : Int
  ks : Int
  vs : Int
  mx : Int
def TM.v (m : TM) : Value := .agg #[.string m.nm, .int .i64 m.kd, .int .i64 m.ks, .int .i64 m.vs, .int .i64 m.mx]
def TM.right (m : TM) : Bool := rightB m.nm m.kd m.ks m.vs m.mx

/-- An entry: its block, its data's block and room, its key and its data. -/
structure En where
  b : Nat
  d : Nat
  c : Nat
  key : ByteArray
  data : ByteArray
structure EnAt (W : World) (x : En) : Prop where
  row : RowAt W x.b 2
  key : W.cell? ⟨x.b, 0, none⟩ = some (.string x.key)
  sl : W.cell? ⟨x.b, 1, none⟩ = some (.slice (some ⟨x.d, 0, none⟩) x.data.size x.c)
  drow : RowM W x.d x.c
  le : x.data.size ≤ x.c
  cap : x.c ≤ maxLen
  bytes : ∀ i, i < x.data.size → W.cell? ⟨x.d, i, none⟩ = some (.int .u8 ((nums x.data).getD i 0))
theorem EnAt.kept {S : Nat → Prop} {W W' : World} {x : En} (h : EnAt W x) (q : Kept S W W') (hb : ¬ S x.b) (hd : ¬ S x.d) : EnAt W' x :=
  ⟨h.row.kept q hb, (q.cell (p := ⟨x.b, 0, none⟩) h.row.lt hb).trans h.key, (q.cell (p := ⟨x.b, 1, none⟩) h.row.lt hb).trans h.sl, h.drow.kept q hd, h.le, h.cap, fun i hi => (q.cell (p := ⟨x.d, i, none⟩) h.drow.lt hd).trans (h.bytes i hi)⟩
theorem EnAt.data {W : World} {x : En} (h : EnAt W x) : BytesAt W (some ⟨x.d, 0, none⟩) x.data.size x.data :=
  ⟨rfl, fun _ ad e => by cases e; exact ⟨_, _, rfl⟩, fun i hi => ⟨x.d, 0, rfl, h.drow.lt, by rw [Nat.zero_add]; exact h.bytes i hi⟩⟩

/-- How entries are kept: a list, a map, a row. -/
def KindL (W : World) (mx : Int) (iv : Value) (E : List En) (F : Nat → Prop) : Prop :=
  ∃ bl bm ls, iv = .iface 166 (.agg #[.pointer (some ⟨bl, 0, none⟩)]) ∧ SE.L W bl bm mx ls ∧ ls.map (fun x => (x.k, x.v)) = E.map (fun x => (x.key, x.b)) ∧ F = Lfp bl bm ls
def hEnts (E : List En) : List (Ent ByteArray Unit) := E.map fun x => ⟨x.b, x.key, ()⟩
def KindH (W : World) (iv : Value) (E : List En) (F : Nat → Prop) : Prop :=
  ∃ hm, iv = .iface 162 (.map (some hm)) ∧ Tab strK W hm (hEnts E) ∧ F = fun b => b = hm
def KindA (W : World) (iv : Value) (E : List En) (F : Nat → Prop) : Prop :=
  ∃ sv, iv = .iface 168 sv ∧ W.ownsRow 0 41 1 sv E.length (E.map fun x => .pointer (some ⟨x.b, 0, none⟩)) ∧ F = fun b => sv.ownBlock = some b
structure KindAt (W : World) (m : TM) (iv : Value) (E : List En) (F : Nat → Prop) : Prop where
  l : m.kd = 3 → KindL W m.mx iv E F
  h : m.kd = 2 → KindH W iv E F
  a : m.kd = 1 → KindA W iv E F
theorem KindAt.lt {W : World} {m : TM} {iv : Value} {E : List En} {F : Nat → Prop} (h : KindAt W m iv E F) (hr : m.right = true) : ∀ b, F b → b < W.heap.size := by
  have h3 := (rightB_iff _ _ _ _ _).1 hr
  rcases (by omega : m.kd = 1 ∨ m.kd = 2 ∨ m.kd = 3) with e | e | e
  · obtain ⟨sv, _, ho, rfl⟩ := h.a e
    exact fun b hb => (ho.lt b hb).2
  · obtain ⟨hm, _, ht, rfl⟩ := h.h e
    rintro b rfl
    exact ht.lt
  · obtain ⟨bl, bm, ls, _, hl, _, rfl⟩ := h.l e
    exact hl.lt
theorem KindAt.kept {S : Nat → Prop} {W W' : World} {m : TM} {iv : Value} {E : List En} {F : Nat → Prop} (h : KindAt W m iv E F) (q : Kept S W W') (hS : ∀ b, F b → ¬ S b) : KindAt W' m iv E F := by
  refine ⟨fun e => ?_, fun e => ?_, fun e => ?_⟩
  · obtain ⟨bl, bm, ls, h1, h2, h3, rfl⟩ := h.l e
    exact ⟨bl, bm, ls, h1, h2.kept q hS, h3, rfl⟩
  · obtain ⟨hm, h1, h2, rfl⟩ := h.h e
    exact ⟨hm, h1, h2.kept q (hS hm rfl), rfl⟩
  · obtain ⟨sv, h1, h2, rfl⟩ := h.a e
    exact ⟨sv, h1, ownsRow_kept h2 q (fun b e => hS b e), rfl⟩

/-- A number as a key: four bytes, the lowest first. -/
def numK (n : Nat) : ByteArray := ⟨#[UInt8.ofNat (n % 256), UInt8.ofNat (n / 256 % 256), UInt8.ofNat (n / 65536 % 256), UInt8.ofNat (n / 16777216 % 256)]⟩

/-- A table at block bt: its map, its entries, in the document's order; F: the blocks by which they are kept. -/
structure Tb (W : World) (bt : Nat) (m : TM) (iv : Value) (E : List En) (F : Nat → Prop) : Prop where
  right : m.right = true
  row : RowAt W bt 6
  c0 : W.cell? ⟨bt, 0, none⟩ = some (.string m.nm)
  c1 : W.cell? ⟨bt, 1, none⟩ = some (.int .i64 m.kd)
  c2 : W.cell? ⟨bt, 2, none⟩ = some (.int .i64 m.ks)
  c3 : W.cell? ⟨bt, 3, none⟩ = some (.int .i64 m.vs)
  c4 : W.cell? ⟨bt, 4, none⟩ = some (.int .i64 m.mx)
  c5 : W.cell? ⟨bt, 5, none⟩ = some iv
  kind : KindAt W m iv E F
  en : ∀ x ∈ E, EnAt W x
  size : ∀ x ∈ E, (x.key.size : Int) = m.ks ∧ (x.data.size : Int) = m.vs
  keys : (E.map (·.key)).Nodup
  blocks : (E.flatMap fun x => [x.b, x.d]).Nodup
  apart : ∀ b, F b → b ≠ bt ∧ ∀ x ∈ E, b ≠ x.b ∧ b ≠ x.d
  own : ∀ x ∈ E, x.b ≠ bt ∧ x.d ≠ bt
  len : (E.length : Int) ≤ m.mx
  arr : m.kd = 1 → E.map (·.key) = (List.range m.mx.toNat).map numK
/-- The blocks that a table takes. -/
def Tfp (bt : Nat) (E : List En) (F : Nat → Prop) (b : Nat) : Prop := b = bt ∨ F b ∨ ∃ x ∈ E, x.b = b ∨ x.d = b

section
variable {W W' : World} {bt : Nat} {m : TM} {iv : Value} {E : List En} {F : Nat → Prop}
theorem Tb.lt (h : Tb W bt m iv E F) : ∀ b, Tfp bt E F b → b < W.heap.size := by
  rintro b (rfl | hf | ⟨x, hx, rfl | rfl⟩)
  · exact h.row.lt
  · exact h.kind.lt h.right b hf
  · exact (h.en x hx).row.lt
  · exact (h.en x hx).drow.lt
theorem Tb.kept {S : Nat → Prop} (h : Tb W bt m iv E F) (q : Kept S W W') (hS : ∀ b, Tfp bt E F b → ¬ S b) : Tb W' bt m iv E F := by
  have hb := hS bt (.inl rfl)
  have hl := h.row.lt
  exact ⟨h.right, h.row.kept q hb, (q.cell (p := ⟨bt, 0, none⟩) hl hb).trans h.c0, (q.cell (p := ⟨bt, 1, none⟩) hl hb).trans h.c1, (q.cell (p := ⟨bt, 2, none⟩) hl hb).trans h.c2, (q.cell (p := ⟨bt, 3, none⟩) hl hb).trans h.c3,
    (q.cell (p := ⟨bt, 4, none⟩) hl hb).trans h.c4, (q.cell (p := ⟨bt, 5, none⟩) hl hb).trans h.c5, h.kind.kept q (fun b hf => hS b (.inr (.inl hf))),
    fun x hx => (h.en x hx).kept q (hS _ (.inr (.inr ⟨x, hx, .inl rfl⟩))) (hS _ (.inr (.inr ⟨x, hx, .inr rfl⟩))), h.size, h.keys, h.blocks, h.apart, h.own, h.len, h.arr⟩
theorem Tb.twin (h : Tb W bt m iv E F) (t : Twin W' W) : Tb W' bt m iv E F := h.kept ((Kept.refl (fun _ => False) W).twin t) (fun _ _ e => e)
end
end Go.Proofs.YtdkcnigghcbnpaaGreat

/- Lists and maps of a table: use, peek, add, drop, size. -/
namespace Go.Proofs.YtdkcnigghcbnpaaGreat
set_option linter.unusedVariables false
set_option linter.unusedSimpArgs false
open Go.RowKit Go.MapKept

section
variable {W : World} {bl bm : Nat} {mx : Int} {ls : List (Ent ByteArray Nat)} {k : ByteArray}
theorem rec_use (hL : SE.L W bl bm mx ls) : Calls Tryz.prog 187 #[.agg #[.pointer (some ⟨bl, 0, none⟩)], .string k] W fun e w' => e = .returned (SE.vv (lookE k ls)) ∧ SE.L w' bl bm mx (useE k ls) ∧ Kept (Lfp bl bm ls) W w' := by
  have k0 := Kept.one_alloc W (.cells #[.pointer (some ⟨bl, 0, none⟩)] 166)
  have h0 := hL.kept k0 (fun _ _ e => e)
  have K0 := Lib.hid k0
  clear k0 hL
  go_enter Tryz.func187, Tryz.ntmps187
  go_wp2_with fail
  refine (SE.get_any (k := k) h0).mono ?_
  rintro e w1 ⟨rfl, h1, k1, _⟩
  have HK := Lib.hid (show Kept (Lfp bl bm ls) W w1 from (K0.out.mono (fun _ _ e => e.elim)).trans k1 (fun _ _ e => e))
  clear k1 h0
  go_wp2_with fail
  go_ret
  exact ⟨rfl, h1, HK.out⟩
theorem rec_peek (hL : SE.L W bl bm mx ls) : Calls Tryz.prog 185 #[.agg #[.pointer (some ⟨bl, 0, none⟩)], .string k] W fun e w' => e = .returned (SE.vv (lookE k ls)) ∧ Kept (fun _ => False) W w' := by
  have k0 := Kept.one_alloc W (.cells #[.pointer (some ⟨bl, 0, none⟩)] 166)
  have h0 := hL.kept k0 (fun _ _ e => e)
  have K0 := Lib.hid k0
  clear k0 hL
  go_enter Tryz.func185, Tryz.ntmps185
  go_wp2_with fail
  refine (SE.peek_any (k := k) h0).mono ?_
  rintro e w1 ⟨rfl, rfl⟩
  clear h0
  go_wp2_with fail
  go_ret
  exact ⟨rfl, K0.out⟩
theorem rec_size (hL : SE.L W bl bm mx ls) : Calls Tryz.prog 186 #[.agg #[.pointer (some ⟨bl, 0, none⟩)]] W fun e w' => e = .returned (.int .i64 ls.length) ∧ Kept (fun _ => False) W w' := by
  have k0 := Kept.one_alloc W (.cells #[.pointer (some ⟨bl, 0, none⟩)] 166)
  have h0 := hL.kept k0 (fun _ _ e => e)
  have K0 := Lib.hid k0
  clear k0 hL
  go_enter Tryz.func186, Tryz.ntmps186
  go_wp2_with fail
  refine (SE.len_any h0).mono ?_
  rintro e w1 ⟨rfl, rfl⟩
  clear h0
  go_wp2_with fail
  go_ret
  exact ⟨rfl, K0.out⟩
theorem rec_drop (hL : SE.L W bl bm mx ls) : Calls Tryz.prog 184 #[.agg #[.pointer (some ⟨bl, 0, none⟩)], .string k] W fun e w' => e = .returned (.int .i64 0) ∧ SE.L w' bl bm mx (dropE k ls) ∧ Kept (Lfp bl bm ls) W w' := by
  have k0 := Kept.one_alloc W (.cells #[.pointer (some ⟨bl, 0, none⟩)] 166)
  have h0 := hL.kept k0 (fun _ _ e => e)
  have K0 := Lib.hid k0
  clear k0 hL
  go_enter Tryz.func184, Tryz.ntmps184
  go_wp2_with fail
  refine (SE.drop_any (k := k) h0).mono ?_
  rintro e w1 ⟨rfl, h1, k1, _⟩
  have HK := Lib.hid (show Kept (Lfp bl bm ls) W w1 from (K0.out.mono (fun _ _ e => e.elim)).trans k1 (fun _ _ e => e))
  clear k1 h0
  go_wp2_with fail
  go_ret
  exact ⟨rfl, h1, HK.out⟩
set_option maxRecDepth 100000 in
/-- recent.add of an entry at block eb, whose key is k. -/
theorem rec_add (hL : SE.L W bl bm mx ls) (h1 : 1 ≤ mx) {eb : Nat} (hk : W.cell? ⟨eb, 0, none⟩ = some (.string k)) (hb : eb < W.heap.size) (n : Int) :
    Calls Tryz.prog 182 #[.agg #[.pointer (some ⟨bl, 0, none⟩)], .pointer (some ⟨eb, 0, none⟩), .int .i64 n] W fun e w' => e = .returned (.int .i64 0) ∧ (∃ nb, W.heap.size ≤ nb ∧ SE.L w' bl bm mx (putE mx nb k eb ls)) ∧ Kept (Lfp bl bm ls) W w' := by
  have k0 := Kept.one_alloc W (.cells #[.pointer (some ⟨bl, 0, none⟩)] 166)
  have h0 := hL.kept k0 (fun _ _ e => e)
  have hk0 : (W.alloc (.cells #[.pointer (some ⟨bl, 0, none⟩)] 166)).cell? ⟨eb, 0, none⟩ = some (.string k) := (k0.cell (p := ⟨eb, 0, none⟩) hb (fun e => e)).trans hk
  have K0 := Lib.hid k0
  clear k0 hL hk
  go_enter Tryz.func182, Tryz.ntmps182
  go_wp2_with fail
  generalize hw0 : W.alloc (.cells #[.pointer (some ⟨bl, 0, none⟩)] 166) = W0 at *
  have hc0 : W0.cell? ⟨W.heap.size, 0, none⟩ = some (.pointer (some ⟨bl, 0, none⟩)) := by rw [← hw0]; simp
  have hz0 : W.heap.size ≤ W0.heap.size := by rw [← hw0]; simp
  clear hw0
  obtain ⟨sb, hsb⟩ : ∃ sb, W.heap.size = sb := ⟨_, rfl⟩
  rw [hsb] at hc0 hz0 ⊢
  have HSB := Lib.hid hsb
  clear hsb
  refine wp_of_WR (n := 0) ?_
  refine wpW_region_tail 7 (by kernel_rfl) (by kernel_rfl) ?_
  obtain ⟨w5, hw5, t5⟩ : ∃ w5, w5 = ({ W0 with drawn := W0.drawn + 1 } : World) ∧ Twin w5 W0 := ⟨_, rfl, rfl, rfl, rfl, rfl⟩
  rw [← hw5]
  simp only [List.take_succ_cons, List.take_zero, List.drop_succ_cons, List.drop_zero]
  have hc5 : w5.cell? ⟨sb, 0, none⟩ = some (.pointer (some ⟨bl, 0, none⟩)) := by obtain ⟨_, rfl⟩ := t5.eq; exact hc0
  have hk5 : w5.cell? ⟨eb, 0, none⟩ = some (.string k) := by obtain ⟨_, rfl⟩ := t5.eq; exact hk0
  have h5 := h0.twin t5
  have K5 := Lib.hid (K0.out.twin t5)
  have hz5 : sb ≤ w5.heap.size := by rw [t5.heap]; exact hz0
  clear hw5 t5 hc0 hk0 h0
  iterate 7 (with_reducible refine wpStill_want (by kernel_rfl) (fun K hK => ?_); go_simp; with_reducible refine hK _ ?_; clear hK K)
  refine wpStill_nil ?_
  gi_wp2_with fail
  refine callsIn_WR.2 ((SE.put_any (k := k) (v := eb) h5 h1).mono ?_)
  rintro e w6 ⟨rfl, h6, k6, z6⟩
  have HK := Lib.hid (show Kept (Lfp bl bm ls) W w6 from (K5.out.mono (fun _ _ e => e.elim)).trans k6 (fun _ _ e => e))
  have H6 := Lib.hid (show ∃ nb, W.heap.size ≤ nb ∧ SE.L w6 bl bm mx (putE mx nb k eb ls) from ⟨_, by rw [HSB.out]; exact hz5, h6⟩)
  clear h6 k6 z6 h5
  gi_wp2_with fail
  go_wp2_with fail
  go_ret
  exact ⟨rfl, H6.out, HK.out⟩
end

section
variable {W : World} {hm : Nat} {xs : List (Ent ByteArray Unit)} {k : ByteArray}
def hV (o : Option (Ent ByteArray Unit)) : Value := match o with | none => .pointer none | some x => .pointer (some ⟨x.b, 0, none⟩)
theorem hzero (w : World) : (zeroValue 41).run Tryz.prog w = .ok (.pointer none) w := by kernel_rfl
theorem hash_look (h : Tab strK W hm xs) (hn : (xs.map (·.k)).Nodup) (w : World) (hw : w = W) : (Instr.lookup 162 (.map (some hm)) (.string k) false).run Tryz.prog w = .ok (hV (lookE k xs)) w := by
  subst hw
  rcases split_key hn k with ⟨e1, e2, _⟩ | ⟨l1, x, l2, e, rfl, e2, _⟩
  · rw [e1]
    exact run_lookup_miss (P := Tryz.prog) (K := strK) (t := 162) Tryz.underlying162 Tryz.underlying9 h e2 false (hzero w)
  · rw [e2]
    have := run_lookup_hit (P := Tryz.prog) (K := strK) (t := 162) Tryz.underlying162 Tryz.underlying9 h hn (x := x) (by rw [e]; simp) false
    exact this
theorem hash_use (h : Tab strK W hm xs) (hn : (xs.map (·.k)).Nodup) : Calls Tryz.prog 158 #[.map (some hm), .string k] W fun e w' => e = .returned (hV (lookE k xs)) ∧ W = w' := by
  have hlk := hash_look (k := k) h hn W rfl
  clear h hn
  go_enter Tryz.func158, Tryz.ntmps158
  go_wp2_with fail
  go_ret
  exact ⟨rfl, rfl⟩
theorem hash_peek (h : Tab strK W hm xs) (hn : (xs.map (·.k)).Nodup) : Calls Tryz.prog 156 #[.map (some hm), .string k] W fun e w' => e = .returned (hV (lookE k xs)) ∧ W = w' := by
  have hlk := hash_look (k := k) h hn W rfl
  clear h hn
  go_enter Tryz.func156, Tryz.ntmps156
  go_wp2_with fail
  go_ret
  exact ⟨rfl, rfl⟩
theorem hash_size (h : Tab strK W hm xs) : Calls Tryz.prog 157 #[.map (some hm)] W fun e w' => e = .returned (.int .i64 xs.length) ∧ W = w' := by
  have hlen := run_len (ty := 3) (P := Tryz.prog) (t := 162) Tryz.underlying162 h
  clear h
  go_enter Tryz.func157, Tryz.ntmps157
  go_wp2_with fail
  go_ret
  exact ⟨rfl, rfl⟩
theorem hash_drop_hit {l1 l2 : List (Ent ByteArray Unit)} {x : Ent ByteArray Unit} (h : Tab strK W hm (l1 ++ x :: l2)) (hn : ((l1 ++ x :: l2).map (·.k)).Nodup) :
    Calls Tryz.prog 155 #[.map (some hm), .string x.k] W fun e w' => e = .returned (.int .i64 0) ∧ Tab strK w' hm (l1 ++ l2) ∧ Kept (fun b => b = hm) W w' := by
  obtain ⟨w2, hdel, ht2, k2, z2⟩ := run_delete_hit (P := Tryz.prog) (t := 162) (ty := 0) Tryz.underlying162 Tryz.underlying9 l1 l2 x h hn 9
  simp only [strK] at hdel
  have HT := Lib.hid ht2
  have HK := Lib.hid k2
  clear z2 h hn ht2 k2
  go_enter Tryz.func155, Tryz.ntmps155
  go_wp2_with fail
  go_ret
  exact ⟨rfl, HT.out, HK.out⟩
theorem hash_add_full (h : Tab strK W hm xs) {n : Int} (hf : n ≤ xs.length) (eb : Nat) : Calls Tryz.prog 153 #[.map (some hm), .pointer (some ⟨eb, 0, none⟩), .int .i64 n] W fun e w' => e = .returned (.int .i64 5) ∧ W = w' := by
  have hlen := run_len (ty := 3) (P := Tryz.prog) (t := 162) Tryz.underlying162 h
  clear h
  go_enter Tryz.func153, Tryz.ntmps153
  go_wp2_with fail
  go_ret
  exact ⟨rfl, rfl⟩
theorem hash_add_room (h : Tab strK W hm xs) {n : Int} (hf : ¬ n ≤ xs.length) {eb : Nat} (hk : W.cell? ⟨eb, 0, none⟩ = some (.string k)) (hnew : ∀ y ∈ xs, y.k ≠ k) :
    Calls Tryz.prog 153 #[.map (some hm), .pointer (some ⟨eb, 0, none⟩), .int .i64 n] W fun e w' => e = .returned (.int .i64 0) ∧ Tab strK w' hm (xs ++ [⟨eb, k, ()⟩]) ∧ Kept (fun b => b = hm) W w' := by
  have hlen := run_len (ty := 3) (P := Tryz.prog) (t := 162) Tryz.underlying162 h
  obtain ⟨w2, hup, ht2, k2, z2⟩ := run_update_new (P := Tryz.prog) (t := 162) Tryz.underlying162 Tryz.underlying9 h (x := ⟨eb, k, ()⟩) hnew
  simp only [strK, ptr] at hup
  have HT := Lib.hid ht2
  have HK := Lib.hid k2
  clear z2 h ht2 k2 hnew
  go_enter Tryz.func153, Tryz.ntmps153
  go_wp2_with fail
  go_ret
  exact ⟨rfl, HT.out, HK.out⟩
end
end Go.Proofs.YtdkcnigghcbnpaaGreat
