/- Things in rows, in memory: texts, programs, maps with their entries, links; images. What they say, and that they stay. No function is named here. -/
import Derived.Test.YtdkcnigghcbnpaaGreatGenC
import Derived.Test.YtdkcnigghcbnpaaGreatTblA
import Derived.Test.YtdkcnigghcbnpaaGreatImgD
namespace Go.Proofs.YtdkcnigghcbnpaaGreat
set_option linter.unusedVariables false
set_option linter.unusedSimpArgs false
open Go.RowKit Go.MapKept

/-- A slice of bytes, in a block of Z. -/
def BytZ (w : World) (Z : Nat → Prop) (a : Option Addr) (k : ByteArray) : Prop := BytesAt w a k.size k ∧ ∀ b o, 0 < k.size → a = some ⟨b, o, none⟩ → Z b
theorem BytZ.kept {S Z : Nat → Prop} {w w' : World} {a : Option Addr} {k : ByteArray} (h : BytZ w Z a k) (q : Kept S w w') (hS : ∀ b, b < w.heap.size → Z b → ¬ S b) : BytZ w' Z a k := by
  refine ⟨⟨h.1.1, h.1.2.1, fun i hi => ?_⟩, h.2⟩
  obtain ⟨b, o, e, hb, hc⟩ := h.1.2.2 i hi
  exact ⟨b, o, e, Nat.lt_of_lt_of_le hb q.size, (q.cell (p := ⟨b, o + i, none⟩) hb (hS b hb (h.2 b o (by omega) e))).trans hc⟩
theorem BytZ.mono {Z Z' : Nat → Prop} {w : World} {a : Option Addr} {k : ByteArray} (h : BytZ w Z a k) (hZ : ∀ b, b < w.heap.size → Z b → Z' b) : BytZ w Z' a k := by
  refine ⟨h.1, fun b o h0 e => ?_⟩
  obtain ⟨b', o', e', hb, -⟩ := h.1.2.2 0 h0
  rw [e] at e'
  cases e'
  exact hZ b hb (h.2 b o h0 e)

/-- What may lie in a row: how many cells it has, and what they say. -/
structure Thing (α : Type) where
  k : Nat
  at_ : World → (Nat → Prop) → α → List Value → Prop
  len : ∀ {w : World} {Z : Nat → Prop} {x : α} {cs : List Value}, at_ w Z x cs → cs.length = k
  kept : ∀ {w w' : World} {Z S : Nat → Prop} {x : α} {cs : List Value}, at_ w Z x cs → Kept S w w' → (∀ b, b < w.heap.size → Z b → ¬ S b) → at_ w' Z x cs
  mono : ∀ {w : World} {Z Z' : Nat → Prop} {x : α} {cs : List Value}, at_ w Z x cs → (∀ b, b < w.heap.size → Z b → Z' b) → at_ w Z' x cs

section
variable {α : Type} {T : Thing α} {w w' : World} {Z Z' S : Nat → Prop} {a : Option Addr} {l : List α}
/-- A row of things, in blocks of Z. -/
def RowZ (T : Thing α) (w : World) (Z : Nat → Prop) (a : Option Addr) (l : List α) : Prop :=
  ∀ (i : Nat) (x : α), l[i]? = some x → ∃ b o cs, a = some ⟨b, o, none⟩ ∧ b < w.heap.size ∧ Z b ∧ (∀ j v, cs[j]? = some v → w.cell? ⟨b, o + i * T.k + j, none⟩ = some v) ∧ T.at_ w Z x cs
theorem RowZ.kept (h : RowZ T w Z a l) (q : Kept S w w') (hS : ∀ b, b < w.heap.size → Z b → ¬ S b) : RowZ T w' Z a l := fun i x hx => by
  obtain ⟨b, o, cs, e, hb, hz, hc, hat⟩ := h i x hx
  exact ⟨b, o, cs, e, Nat.lt_of_lt_of_le hb q.size, hz, fun j v hj => (q.cell (p := ⟨b, o + i * T.k + j, none⟩) hb (hS b hb hz)).trans (hc j v hj), T.kept hat q hS⟩
theorem RowZ.mono (h : RowZ T w Z a l) (hZ : ∀ b, b < w.heap.size → Z b → Z' b) : RowZ T w Z' a l := fun i x hx => by
  obtain ⟨b, o, cs, e, hb, hz, hc, hat⟩ := h i x hx
  exact ⟨b, o, cs, e, hb, hZ b hb hz, hc, T.mono hat hZ⟩
theorem RowZ.keep (h : RowZ T w Z a l) (q : Kept (fun _ => False) w w') : RowZ T w' Z a l := h.kept q (fun _ _ _ e => e)
theorem RowZ.take (h : RowZ T w Z a l) (n : Nat) : RowZ T w Z a (l.take n) := fun i x hx => by
  rw [List.getElem?_take] at hx
  split at hx
  · exact h i x hx
  · cases hx
theorem RowZ.nil : RowZ T w Z a [] := fun i x hx => by cases hx

theorem flat_get {k : Nat} : ∀ (css : List (List Value)) (i j : Nat) (cs : List Value), (∀ c ∈ css, c.length = k) → css[i]? = some cs → j < k → css.flatten[i * k + j]? = cs[j]?
  | [], i, j, cs, _, h, _ => by cases h
  | c :: css, 0, j, cs, hk, h, hj => by
    cases h
    rw [List.flatten_cons, List.getElem?_append_left (by rw [hk _ (.head _)]; omega), Nat.zero_mul, Nat.zero_add]
  | c :: css, i + 1, j, cs, hk, h, hj => by
    rw [List.flatten_cons, List.getElem?_append_right (by rw [hk _ (.head _), Nat.succ_mul]; omega), hk _ (.head _), show (i + 1) * k + j - k = i * k + j from by rw [Nat.succ_mul]; omega]
    exact flat_get css i j cs (fun c hc => hk c (.tail _ hc)) h hj

/-- A row of one's own, that nobody else writes to; what its things hold lies elsewhere. -/
def OwnT (T : Thing α) (ty : TypeId) (w : World) (Z : Nat → Prop) (sv : Value) (l : List α) : Prop :=
  ∃ css : List (List Value), w.ownsRow 0 ty T.k sv l.length css.flatten ∧ css.length = l.length ∧ (∀ (i : Nat) (x : α) (cs : List Value), l[i]? = some x → css[i]? = some cs → T.at_ w (fun b => Z b ∧ sv.ownBlock ≠ some b) x cs) ∧ ∀ b, sv.ownBlock = some b → Z b
variable {ty : TypeId} {sv sv' : Value}
theorem OwnT.nil : OwnT T ty w Z (.slice none 0 0) ([] : List α) := ⟨[], World.ownsRow_nil _ _ _ _, rfl, fun _ _ _ h => (by cases h), fun _ h => (by cases h)⟩
theorem OwnT.kept (h : OwnT T ty w Z sv l) (q : Kept S w w') (hS : ∀ b, b < w.heap.size → Z b → ¬ S b) : OwnT T ty w' Z sv l := by
  obtain ⟨css, h1, h2, h3, h4⟩ := h
  exact ⟨css, ownsRow_kept h1 q (fun b e => hS b (h1.lt b e).2 (h4 b e)), h2, fun i x cs hx hc => T.kept (h3 i x cs hx hc) q (fun b hb hz => hS b hb hz.1), h4⟩
theorem OwnT.keep (h : OwnT T ty w Z sv l) (q : Kept (fun _ => False) w w') : OwnT T ty w' Z sv l := h.kept q (fun _ _ _ e => e)
theorem OwnT.mono (h : OwnT T ty w Z sv l) (hZ : ∀ b, b < w.heap.size → Z b → Z' b) : OwnT T ty w Z' sv l := by
  obtain ⟨css, h1, h2, h3, h4⟩ := h
  exact ⟨css, h1, h2, fun i x cs hx hc => T.mono (h3 i x cs hx hc) (fun b hb hz => ⟨hZ b hb hz.1, hz.2⟩), fun b e => hZ b (h1.lt b e).2 (h4 b e)⟩
theorem OwnT.lens {css : List (List Value)} (h2 : css.length = l.length) (h3 : ∀ (i : Nat) (x : α) (cs : List Value), l[i]? = some x → css[i]? = some cs → T.at_ w Z x cs) : ∀ c ∈ css, c.length = T.k := fun c hc => by
  obtain ⟨i, hi, e⟩ := List.getElem_of_mem hc
  exact T.len (h3 i _ c (List.getElem?_eq_getElem (by omega)) (by rw [← e]; exact List.getElem?_eq_getElem hi))
theorem OwnT.form (h : OwnT T ty w Z sv l) : ∃ a c, sv = .slice a l.length c ∧ l.length ≤ c ∧ RowZ T w Z a l := by
  obtain ⟨css, h1, h2, h3, h4⟩ := h
  obtain ⟨a, c, rfl, hg, -, hc⟩ := own_form h1
  refine ⟨a, c, rfl, hc, fun i x hx => ?_⟩
  have hi : i < l.length := (List.getElem?_eq_some_iff.1 hx).1
  obtain ⟨g, rfl⟩ := hg (by omega)
  have hcs : css[i]? = some css[i] := List.getElem?_eq_getElem (by omega)
  have hat := h3 i x _ hx hcs
  refine ⟨g, 0, css[i], rfl, (h1.lt g rfl).2, h4 g rfl, fun j v hj => ?_, T.mono hat (fun b _ hz => hz.1)⟩
  rw [Nat.zero_add]
  refine own_cell h1 ?_
  have hjl : j < css[i].length := (List.getElem?_eq_some_iff.1 hj).1
  rw [T.len hat] at hjl
  rw [flat_get css i j _ (OwnT.lens h2 h3) hcs hjl]
  exact hj
/-- One more at the end. -/
theorem OwnT.snoc {css : List (List Value)} {cs : List Value} {x : α} (h1 : w.ownsRow 0 ty T.k sv l.length css.flatten) (h2 : css.length = l.length) (h3 : ∀ (i : Nat) (x : α) (cs : List Value), l[i]? = some x → css[i]? = some cs → T.at_ w (fun b => Z b ∧ sv.ownBlock ≠ some b) x cs) (h4 : ∀ b, sv.ownBlock = some b → Z b)
    (hx : T.at_ w (fun b => Z b ∧ sv.ownBlock ≠ some b) x cs) (ho : w'.ownsRow 0 ty T.k sv' (l.length + 1) (css.flatten ++ cs)) (k : Kept (fun b => sv.ownBlock = some b) w w') (hb : sv'.ownBlock = sv.ownBlock ∨ sv'.ownBlock = some w.heap.size) :
    OwnT T ty w' (fun b => Z b ∨ b = w.heap.size) sv' (l ++ [x]) := by
  have tr : ∀ {x : α} {cs : List Value}, T.at_ w (fun b => Z b ∧ sv.ownBlock ≠ some b) x cs → T.at_ w' (fun b => (Z b ∨ b = w.heap.size) ∧ sv'.ownBlock ≠ some b) x cs := fun {x cs} h => by
    have h' := T.mono (Z' := fun b => (Z b ∧ sv.ownBlock ≠ some b) ∧ b < w.heap.size) h (fun b hb hz => ⟨hz, hb⟩)
    have h' := T.kept h' k (fun b hb hz e => hz.1.2 e)
    refine T.mono h' (fun b _ hz => ⟨.inl hz.1.1, fun e => ?_⟩)
    rcases hb with hb | hb
    · exact hz.1.2 (hb ▸ e)
    · rw [hb] at e
      have := Option.some.inj e
      omega
  refine ⟨css ++ [cs], ?_, by simp [h2], fun i y c hy hc => ?_, fun b e => ?_⟩
  · rw [List.length_append, List.flatten_append]
    simpa using ho
  · by_cases hi : i < l.length
    · rw [List.getElem?_append_left hi] at hy
      rw [List.getElem?_append_left (by omega)] at hc
      exact tr (h3 i y c hy hc)
    · have hil : i = l.length := by
        have := (List.getElem?_eq_some_iff.1 hy).1
        rw [List.length_append, List.length_singleton] at this
        omega
      subst hil
      rw [List.getElem?_append_right (Nat.le_refl _), Nat.sub_self] at hy
      rw [← h2, List.getElem?_append_right (Nat.le_refl _), Nat.sub_self] at hc
      cases hy
      cases hc
      exact tr hx
  · rcases hb with hb | hb
    · exact .inl (h4 b (hb ▸ e))
    · rw [hb] at e
      exact .inr (Option.some.inj e).symm
end

/-- A text in a cell. -/
def tStr : Thing ByteArray := ⟨1, fun _ _ s cs => cs = [.string s], fun h => by subst h; rfl, fun h _ _ => h, fun h _ => h⟩
/-- A program, a map and its entries, a link, with any numbers. -/
structure GP where
  nm : ByteArray
  code : ByteArray
  maps : List ByteArray
  ctx : Int
  emit : Int
structure GD where
  m : TM
  data : ByteArray
structure GL where
  nm : ByteArray
  pg : ByteArray
  ver : Int
structure GI where
  P : List GP
  D : List GD
  L : List GL
/-- Out of numbers from 0 on. -/
def intP (x : IP) : GP := ⟨x.1, x.2.1, x.2.2.1, (x.2.2.2.1 : Int), (x.2.2.2.2 : Int)⟩
def intD (x : IDm) : GD := ⟨⟨x.1, (x.2.1 : Int), (x.2.2.1 : Int), (x.2.2.2.1 : Int), (x.2.2.2.2.1 : Int)⟩, x.2.2.2.2.2⟩
def intL (x : IL) : GL := ⟨x.1, x.2.1, (x.2.2 : Int)⟩
def intI (x : Img) : GI := ⟨x.1.map intP, x.2.1.map intD, x.2.2.map intL⟩
def PAt (w : World) (Z : Nat → Prop) (x : GP) (cs : List Value) : Prop := ∃ ca cc ma mc, cs = [.string x.nm, .slice ca x.code.size cc, .slice ma x.maps.length mc, .int .i64 x.ctx, .int .i64 x.emit] ∧ x.code.size ≤ cc ∧ x.maps.length ≤ mc ∧ BytZ w Z ca x.code ∧ RowZ tStr w Z ma x.maps
def tProg : Thing GP := ⟨5, PAt, fun h => by obtain ⟨_, _, _, _, rfl, _⟩ := h; rfl,
  fun h q hS => by obtain ⟨ca, cc, ma, mc, e, h1, h2, h3, h4⟩ := h; exact ⟨ca, cc, ma, mc, e, h1, h2, h3.kept q hS, h4.kept q hS⟩,
  fun h hZ => by obtain ⟨ca, cc, ma, mc, e, h1, h2, h3, h4⟩ := h; exact ⟨ca, cc, ma, mc, e, h1, h2, h3.mono hZ, h4.mono hZ⟩⟩
def DAt (w : World) (Z : Nat → Prop) (x : GD) (cs : List Value) : Prop := ∃ da dc, cs = [.string x.m.nm, .int .i64 x.m.kd, .int .i64 x.m.ks, .int .i64 x.m.vs, .int .i64 x.m.mx, .slice da x.data.size dc] ∧ x.data.size ≤ dc ∧ BytZ w Z da x.data
def tDump : Thing GD := ⟨6, DAt, fun h => by obtain ⟨_, _, rfl, _⟩ := h; rfl,
  fun h q hS => by obtain ⟨da, dc, e, h1, h2⟩ := h; exact ⟨da, dc, e, h1, h2.kept q hS⟩,
  fun h hZ => by obtain ⟨da, dc, e, h1, h2⟩ := h; exact ⟨da, dc, e, h1, h2.mono hZ⟩⟩
def tLink : Thing GL := ⟨3, fun _ _ x cs => cs = [.string x.nm, .string x.pg, .int .i64 x.ver], fun h => by subst h; rfl, fun h _ _ => h, fun h _ => h⟩
/-- An image. -/
def ImgAt (w : World) (Z : Nat → Prop) (v : Value) (x : GI) : Prop := ∃ pa pc da dc la lc, v = .agg #[.slice pa x.P.length pc, .slice da x.D.length dc, .slice la x.L.length lc] ∧ x.P.length ≤ pc ∧ x.D.length ≤ dc ∧ x.L.length ≤ lc ∧ RowZ tProg w Z pa x.P ∧ RowZ tDump w Z da x.D ∧ RowZ tLink w Z la x.L
theorem ImgAt.kept {S Z : Nat → Prop} {w w' : World} {v : Value} {x : GI} (h : ImgAt w Z v x) (q : Kept S w w') (hS : ∀ b, b < w.heap.size → Z b → ¬ S b) : ImgAt w' Z v x := by
  obtain ⟨pa, pc, da, dc, la, lc, e, h1, h2, h3, h4, h5, h6⟩ := h
  exact ⟨pa, pc, da, dc, la, lc, e, h1, h2, h3, h4.kept q hS, h5.kept q hS, h6.kept q hS⟩
theorem ImgAt.keep {Z : Nat → Prop} {w w' : World} {v : Value} {x : GI} (h : ImgAt w Z v x) (q : Kept (fun _ => False) w w') : ImgAt w' Z v x := h.kept q (fun _ _ _ e => e)
theorem ImgAt.mono {Z Z' : Nat → Prop} {w : World} {v : Value} {x : GI} (h : ImgAt w Z v x) (hZ : ∀ b, b < w.heap.size → Z b → Z' b) : ImgAt w Z' v x := by
  obtain ⟨pa, pc, da, dc, la, lc, e, h1, h2, h3, h4, h5, h6⟩ := h
  exact ⟨pa, pc, da, dc, la, lc, e, h1, h2, h3, h4.mono hZ, h5.mono hZ, h6.mono hZ⟩
theorem ImgAt.nil {Z : Nat → Prop} {w : World} : ImgAt w Z (.agg #[.slice none 0 0, .slice none 0 0, .slice none 0 0]) ⟨[], [], []⟩ := ⟨none, 0, none, 0, none, 0, rfl, Nat.le_refl _, Nat.le_refl _, Nat.le_refl _, RowZ.nil, RowZ.nil, RowZ.nil⟩

section
variable {w : World} {Z : Nat → Prop} {a : Option Addr} {i : Nat}
/-- A text, a program, a map, a link of a row: its cells. -/
theorem RowZ.str {l : List ByteArray} {s : ByteArray} (h : RowZ tStr w Z a l) (hi : l[i]? = some s) : ∃ b o, a = some ⟨b, o, none⟩ ∧ b < w.heap.size ∧ Z b ∧ w.cell? ⟨b, o + i, none⟩ = some (.string s) := by
  obtain ⟨b, o, cs, e, hb, hz, hc, hat⟩ := h i s hi
  subst hat
  have h0 := hc 0 _ rfl
  exact ⟨b, o, e, hb, hz, by simpa [tStr] using h0⟩
theorem RowZ.link {l : List GL} {x : GL} (h : RowZ tLink w Z a l) (hi : l[i]? = some x) : ∃ b o, a = some ⟨b, o, none⟩ ∧ b < w.heap.size ∧ Z b ∧ w.cell? ⟨b, o + i * 3, none⟩ = some (.string x.nm) ∧ w.cell? ⟨b, o + i * 3 + 1, none⟩ = some (.string x.pg) ∧ w.cell? ⟨b, o + i * 3 + 2, none⟩ = some (.int .i64 x.ver) := by
  obtain ⟨b, o, cs, e, hb, hz, hc, hat⟩ := h i x hi
  subst hat
  exact ⟨b, o, e, hb, hz, hc 0 _ rfl, hc 1 _ rfl, hc 2 _ rfl⟩
theorem RowZ.prog {l : List GP} {x : GP} (h : RowZ tProg w Z a l) (hi : l[i]? = some x) : ∃ b o ca cc ma mc, a = some ⟨b, o, none⟩ ∧ b < w.heap.size ∧ Z b ∧ x.code.size ≤ cc ∧ x.maps.length ≤ mc ∧ BytZ w Z ca x.code ∧ RowZ tStr w Z ma x.maps ∧
    w.cell? ⟨b, o + i * 5, none⟩ = some (.string x.nm) ∧ w.cell? ⟨b, o + i * 5 + 1, none⟩ = some (.slice ca x.code.size cc) ∧ w.cell? ⟨b, o + i * 5 + 2, none⟩ = some (.slice ma x.maps.length mc) ∧ w.cell? ⟨b, o + i * 5 + 3, none⟩ = some (.int .i64 x.ctx) ∧ w.cell? ⟨b, o + i * 5 + 4, none⟩ = some (.int .i64 x.emit) := by
  obtain ⟨b, o, cs, e, hb, hz, hc, ca, cc, ma, mc, rfl, h1, h2, h3, h4⟩ := h i x hi
  exact ⟨b, o, ca, cc, ma, mc, e, hb, hz, h1, h2, h3, h4, hc 0 _ rfl, hc 1 _ rfl, hc 2 _ rfl, hc 3 _ rfl, hc 4 _ rfl⟩
theorem RowZ.dump {l : List GD} {x : GD} (h : RowZ tDump w Z a l) (hi : l[i]? = some x) : ∃ b o da dc, a = some ⟨b, o, none⟩ ∧ b < w.heap.size ∧ Z b ∧ x.data.size ≤ dc ∧ BytZ w Z da x.data ∧
    w.cell? ⟨b, o + i * 6, none⟩ = some (.string x.m.nm) ∧ w.cell? ⟨b, o + i * 6 + 1, none⟩ = some (.int .i64 x.m.kd) ∧ w.cell? ⟨b, o + i * 6 + 2, none⟩ = some (.int .i64 x.m.ks) ∧ w.cell? ⟨b, o + i * 6 + 3, none⟩ = some (.int .i64 x.m.vs) ∧ w.cell? ⟨b, o + i * 6 + 4, none⟩ = some (.int .i64 x.m.mx) ∧ w.cell? ⟨b, o + i * 6 + 5, none⟩ = some (.slice da x.data.size dc) := by
  obtain ⟨b, o, cs, e, hb, hz, hc, da, dc, rfl, h1, h2⟩ := h i x hi
  exact ⟨b, o, da, dc, e, hb, hz, h1, h2, hc 0 _ rfl, hc 1 _ rfl, hc 2 _ rfl, hc 3 _ rfl, hc 4 _ rfl, hc 5 _ rfl⟩
end
end Go.Proofs.YtdkcnigghcbnpaaGreat
