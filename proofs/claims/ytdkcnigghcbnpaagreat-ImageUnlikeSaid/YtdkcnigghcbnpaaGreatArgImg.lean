/- An image that came in. -/
import Derived.Test.YtdkcnigghcbnpaaGreatThing
import Derived.WalkKit
import Derived.ProofKit
import Derived.OpenShut
import Derived.ShutString
import Derived.ChangeOld
import Derived.Test.YtdkcnigghcbnpaaGreatFreeB
import Derived.Test.YtdkcnigghcbnpaaGreatGenE
import Derived.Deep.Slices
namespace Go.Proofs.YtdkcnigghcbnpaaGreat
set_option linter.unusedVariables false
set_option linter.unusedSimpArgs false
open Go.ChangeShapes Go.WideShapes Go.Deep Go.RowKit

section
variable {H : Type} {enc : TypeId × Value → H} {w : World} {base : Nat} {spare : Nat → Bool} {held : Bool}
theorem list_of {α : Type} {n : Nat} {Q : Nat → α → Prop} (h : ∀ i, i < n → ∃ y, Q i y) : ∃ l : List α, l.length = n ∧ ∀ (i : Nat) (y : α), l[i]? = some y → Q i y := by
  induction n with
  | zero => exact ⟨[], rfl, fun i y hy => by cases hy⟩
  | succ n ih =>
    obtain ⟨l, hl, hq⟩ := ih (fun i hi => h i (by omega))
    obtain ⟨y, hy⟩ := h n (by omega)
    refine ⟨l ++ [y], by simp [hl], fun i z hz => ?_⟩
    by_cases hi : i < n
    · rw [List.getElem?_append_left (by omega)] at hz
      exact hq i z hz
    · have hin : i = n := by
        have := (List.getElem?_eq_some_iff.1 hz).1
        rw [List.length_append, List.length_singleton] at this
        omega
      subst hin
      rw [← hl, List.getElem?_append_right (Nat.le_refl _), Nat.sub_self] at hz
      cases hz
      exact hy
/-- A row that came in, whatever its things are. -/
theorem row_of_trod {α : Type} {T : Thing α} {t e : TypeId} {fuel : Nat} {a : Option Addr} {n c : Nat} {x : DataW H × List MemPlace} (ht : Tryz.prog.underlying t = some (.slice e)) (hk : Tryz.prog.cellsOf e = T.k) (h0 : 0 < T.k)
    (he : ∀ (m : Nat) (cs : List Value) (y : DataW H × List MemPlace), cs.length = T.k → DataW.trod enc Tryz.prog w base spare held m e cs = some y → ∃ x : α, T.at_ w (fun b => b < w.heap.size) x cs)
    (h : DataW.trod enc Tryz.prog w base spare held fuel t [.slice a n c] = some x) : ∃ l : List α, l.length = n ∧ n ≤ c ∧ c ≤ maxLen ∧ RowZ T w (fun b => b < w.heap.size) a l := by
  rcases open_slice ht h with ⟨hcs, _⟩ | ⟨a', len, cap, m, k, D, Pl, hcs, hb, hl, hm, hmm, hx, hi⟩
  · simp only [List.cons.injEq, Value.slice.injEq, and_true] at hcs
    obtain ⟨rfl, rfl, rfl⟩ := hcs
    exact ⟨[], rfl, Nat.le_refl _, Nat.zero_le _, RowZ.nil⟩
  · simp only [List.cons.injEq, Value.slice.injEq, and_true] at hcs
    obtain ⟨rfl, rfl, rfl⟩ := hcs
    have hnm : n ≤ m := by rw [hmm]; split <;> omega
    have key : ∀ i, i < n → ∃ (y : α) (b o : Nat) (cs : List Value), a' = ⟨b, o, none⟩ ∧ b < w.heap.size ∧ (∀ j v, cs[j]? = some v → w.cell? ⟨b, o + i * T.k + j, none⟩ = some v) ∧ T.at_ w (fun b => b < w.heap.size) y cs := by
      intro i hin
      obtain ⟨cs, hc, ht'⟩ := hi i (by omega)
      rw [hk] at hc
      obtain ⟨_, hcl, hat⟩ := World.cells?_some hc
      obtain ⟨y, hy⟩ := he _ _ _ hcl ht'
      obtain ⟨b, o, sp⟩ := a'
      obtain ⟨cs0, hc0, -⟩ := hi 0 (by omega)
      rw [hk] at hc0
      obtain ⟨_, hcl0, hat0⟩ := World.cells?_some hc0
      have c0 := hat0 0 h0
      rw [List.getElem?_eq_getElem (by omega), Nat.zero_mul, Go.Deep.add_add] at c0
      have hsp : sp = none := by simpa [Addr.add] using World.cell?_spot c0
      subst hsp
      have hat' : ∀ j v, cs[j]? = some v → w.cell? ⟨b, o + i * T.k + j, none⟩ = some v := fun j v hj => by
        have hjl : j < T.k := by rw [← hcl]; exact (List.getElem?_eq_some_iff.1 hj).1
        have := hat j hjl
        rw [add_flat, add_flat] at this
        rw [this]
        exact hj
      have c1 := hat' 0 _ (List.getElem?_eq_getElem (by omega))
      exact ⟨y, b, o, cs, rfl, World.block_lt_of_cell? w _ c1, hat', hy⟩
    obtain ⟨l, hl', hq⟩ := list_of key
    refine ⟨l, hl', hl, hm, fun i y hy => ?_⟩
    obtain ⟨b, o, cs, e, hlt, hc, hat⟩ := hq i y hy
    subst e
    exact ⟨b, o, cs, rfl, hlt, hlt, hc, hat⟩
theorem bytz_of_trod {fuel : Nat} {v : Value} {y : DataW H × List MemPlace} (h : DataW.trod enc Tryz.prog w base spare held fuel 28 [v] = some y) :
    ∃ (a : Option Addr) (c : Nat) (k : ByteArray), v = .slice a k.size c ∧ k.size ≤ c ∧ c ≤ maxLen ∧ BytZ w (fun b => b < w.heap.size) a k := by
  rcases open_ints Tryz.underlying28 Tryz.underlying5 (by kernel_rfl) h with ⟨hcs, _⟩ | ⟨x, l, c, zs, hcs, _, hl, hm, hz, _, hcell, hwz⟩
  · simp only [List.cons.injEq, and_true] at hcs
    subst hcs
    exact ⟨none, 0, ByteArray.empty, rfl, Nat.le_refl _, Nat.zero_le _, ⟨rfl, fun h => absurd h (Nat.lt_irrefl 0), fun i hi => absurd hi (Nat.not_lt_zero i)⟩, fun b o h => absurd h (Nat.lt_irrefl 0)⟩
  · simp only [List.cons.injEq, and_true] at hcs
    subst hcs
    have ho : Octets w (some x) l (fun i => zs.getD i 0) := (by
      by_cases hsp : spare x.block = true
      · rw [if_pos hsp] at hz
        exact octets_of hz hl hcell hwz
      · rw [if_neg hsp] at hz
        exact octets_of hz (Nat.le_refl _) hcell hwz)
    have hb := bytes_of_octets ho
    have hs : (bytesOf (fun i => zs.getD i 0) l).size = l := hb.1.symm
    refine ⟨some x, c, bytesOf (fun i => zs.getD i 0) l, by rw [hs], by rw [hs]; exact hl, hm, by rw [hs]; exact hb, fun b o h e => ?_⟩
    rw [hs] at h
    obtain ⟨b', o', e', hlt, -⟩ := hb.2.2 0 h
    rw [e] at e'
    cases e'
    exact hlt
theorem str_of_trod {fuel : Nat} {cs : List Value} {y : DataW H × List MemPlace} (h : DataW.trod enc Tryz.prog w base spare held fuel 9 cs = some y) : ∃ s, cs = [.string s] ∧ s.size ≤ maxLen := by
  obtain ⟨s, e, -, hs⟩ := DataW.trod_string Tryz.underlying9 h
  exact ⟨s, e, hs⟩
theorem list1 {α : Type} {l : List α} (h : l.length = 1) : ∃ a, l = [a] := by
  match l, h with
  | [a], _ => exact ⟨a, rfl⟩
theorem slice_form {t e : TypeId} {fuel : Nat} {v : Value} {x : DataW H × List MemPlace} (ht : Tryz.prog.underlying t = some (.slice e)) (h : DataW.trod enc Tryz.prog w base spare held fuel t [v] = some x) : ∃ a n c, v = .slice a n c := by
  rcases open_slice ht h with ⟨hcs, _⟩ | ⟨a', len, cap, m, k, D, Pl, hcs, _⟩
  · simp only [List.cons.injEq, and_true] at hcs
    exact ⟨_, _, _, hcs⟩
  · simp only [List.cons.injEq, and_true] at hcs
    exact ⟨_, _, _, hcs⟩
theorem int_of_trod {n : Nat} {c : Value} {y : DataW H × List MemPlace} (h : DataW.trod enc Tryz.prog w base spare held n 3 [c] = some y) : ∃ x : Int, c = .int .i64 x := by
  obtain ⟨x, e, -⟩ := DataW.trod_int Tryz.underlying3 h
  exact ⟨x, by simpa using e⟩
set_option maxRecDepth 100000 in
theorem strs_of_trod {fuel : Nat} {v : Value} {x : DataW H × List MemPlace} (h : DataW.trod enc Tryz.prog w base spare held fuel 64 [v] = some x) : ∃ (a : Option Addr) (c : Nat) (l : List ByteArray), v = .slice a l.length c ∧ l.length ≤ c ∧ c ≤ maxLen ∧ RowZ tStr w (fun b => b < w.heap.size) a l := by
  obtain ⟨a, n, c, rfl⟩ := slice_form Tryz.underlying64 h
  obtain ⟨l, hl, h1, h2, h3⟩ := row_of_trod (T := tStr) Tryz.underlying64 (by kernel_rfl) (by decide) (fun m cs y hcs hy => by
    obtain ⟨s, e, -⟩ := str_of_trod hy
    exact ⟨s, e⟩) h
  subst hl
  exact ⟨a, c, l, rfl, h1, h2, h3⟩
set_option maxRecDepth 100000 in
theorem prog_of_trod {m : Nat} {cs : List Value} {y : DataW H × List MemPlace} (hcs : cs.length = 5) (h : DataW.trod enc Tryz.prog w base spare held m 99 cs = some y) : ∃ x : GP, PAt w (fun b => b < w.heap.size) x cs ∧ x.maps.length ≤ maxLen := by
  obtain ⟨xs, n, -, -, -, hlen, hf⟩ := DataW.trod_struct Tryz.underlying99 h
  have h1 : Tryz.prog.cellsOf 9 = 1 := by kernel_rfl
  have h2 : Tryz.prog.cellsOf 3 = 1 := by kernel_rfl
  have h3 : Tryz.prog.cellsOf 28 = 1 := by kernel_rfl
  have h4 : Tryz.prog.cellsOf 64 = 1 := by kernel_rfl
  obtain ⟨x0, x1, x2, x3, x4, rfl⟩ : ∃ x0 x1 x2 x3 x4, xs = [x0, x1, x2, x3, x4] := by
    match xs, hlen with
    | [x0, x1, x2, x3, x4], _ => exact ⟨x0, x1, x2, x3, x4, rfl⟩
  obtain ⟨c0, c1, c2, c3, c4, rfl⟩ : ∃ c0 c1 c2 c3 c4, cs = [c0, c1, c2, c3, c4] := by
    match cs, hcs with
    | [x0, x1, x2, x3, x4], _ => exact ⟨x0, x1, x2, x3, x4, rfl⟩
  have f0 := hf 0 _ rfl
  have f1 := hf 1 _ rfl
  have f2 := hf 2 _ rfl
  have f3 := hf 3 _ rfl
  have f4 := hf 4 _ rfl
  simp only [h1, h2, h3, h4, List.drop_succ_cons, List.drop_zero, List.take_succ_cons, List.take_zero, List.getElem?_cons_zero, List.getElem?_cons_succ] at f0 f1 f2 f3 f4
  obtain ⟨s, e, -⟩ := str_of_trod f0
  obtain ⟨ca, cc, k, rfl, hk, -, hkz⟩ := bytz_of_trod f1
  obtain ⟨ma, mc, l, rfl, hl, hm, hlz⟩ := strs_of_trod f2
  obtain ⟨y1, rfl⟩ := int_of_trod f3
  obtain ⟨y2, rfl⟩ := int_of_trod f4
  obtain rfl : c0 = .string s := by simpa [h1] using e
  exact ⟨⟨s, k, l, y1, y2⟩, ⟨ca, cc, ma, mc, rfl, hk, hl, hkz, hlz⟩, Nat.le_trans hl hm⟩
set_option maxRecDepth 100000 in
theorem dump_of_trod {m : Nat} {cs : List Value} {y : DataW H × List MemPlace} (hcs : cs.length = 6) (h : DataW.trod enc Tryz.prog w base spare held m 101 cs = some y) : ∃ x : GD, DAt w (fun b => b < w.heap.size) x cs := by
  obtain ⟨xs, n, -, -, -, hlen, hf⟩ := DataW.trod_struct Tryz.underlying101 h
  have h1 : Tryz.prog.cellsOf 9 = 1 := by kernel_rfl
  have h2 : Tryz.prog.cellsOf 3 = 1 := by kernel_rfl
  have h3 : Tryz.prog.cellsOf 28 = 1 := by kernel_rfl
  have h5 : Tryz.prog.cellsOf 35 = 5 := by kernel_rfl
  obtain ⟨x0, x1, rfl⟩ : ∃ x0 x1, xs = [x0, x1] := by
    match xs, hlen with
    | [x0, x1], _ => exact ⟨x0, x1, rfl⟩
  obtain ⟨c0, c1, c2, c3, c4, c5, rfl⟩ : ∃ c0 c1 c2 c3 c4 c5, cs = [c0, c1, c2, c3, c4, c5] := by
    match cs, hcs with
    | [x0, x1, x2, x3, x4, x5], _ => exact ⟨x0, x1, x2, x3, x4, x5, rfl⟩
  have f0 := hf 0 _ rfl
  have f1 := hf 1 _ rfl
  simp only [h3, h5, List.drop_succ_cons, List.drop_zero, List.take_succ_cons, List.take_zero, List.getElem?_cons_zero, List.getElem?_cons_succ] at f0 f1
  obtain ⟨da, dc, k, rfl, hk, -, hkz⟩ := bytz_of_trod f1
  obtain ⟨zs, n', -, -, -, hlen', hf'⟩ := DataW.trod_struct Tryz.underlying35 f0
  obtain ⟨z0, z1, z2, z3, z4, rfl⟩ : ∃ x0 x1 x2 x3 x4, zs = [x0, x1, x2, x3, x4] := by
    match zs, hlen' with
    | [x0, x1, x2, x3, x4], _ => exact ⟨x0, x1, x2, x3, x4, rfl⟩
  have g0 := hf' 0 _ rfl
  have g1 := hf' 1 _ rfl
  have g2 := hf' 2 _ rfl
  have g3 := hf' 3 _ rfl
  have g4 := hf' 4 _ rfl
  simp only [h1, h2, List.drop_succ_cons, List.drop_zero, List.take_succ_cons, List.take_zero, List.getElem?_cons_zero, List.getElem?_cons_succ] at g0 g1 g2 g3 g4
  obtain ⟨s, e, -⟩ := str_of_trod g0
  obtain ⟨y1, rfl⟩ := int_of_trod g1
  obtain ⟨y2, rfl⟩ := int_of_trod g2
  obtain ⟨y3, rfl⟩ := int_of_trod g3
  obtain ⟨y4, rfl⟩ := int_of_trod g4
  obtain rfl : c0 = .string s := by simpa [h1, h5] using e
  exact ⟨⟨⟨s, y1, y2, y3, y4⟩, k⟩, ⟨da, dc, rfl, hk, hkz⟩⟩
set_option maxRecDepth 100000 in
theorem link_of_trod {m : Nat} {cs : List Value} {y : DataW H × List MemPlace} (hcs : cs.length = 3) (h : DataW.trod enc Tryz.prog w base spare held m 103 cs = some y) : ∃ x : GL, tLink.at_ w (fun b => b < w.heap.size) x cs := by
  obtain ⟨xs, n, -, -, -, hlen, hf⟩ := DataW.trod_struct Tryz.underlying103 h
  have h1 : Tryz.prog.cellsOf 9 = 1 := by kernel_rfl
  have h2 : Tryz.prog.cellsOf 3 = 1 := by kernel_rfl
  obtain ⟨x0, x1, x2, rfl⟩ : ∃ x0 x1 x2, xs = [x0, x1, x2] := by
    match xs, hlen with
    | [x0, x1, x2], _ => exact ⟨x0, x1, x2, rfl⟩
  obtain ⟨c0, c1, c2, rfl⟩ : ∃ c0 c1 c2, cs = [c0, c1, c2] := by
    match cs, hcs with
    | [x0, x1, x2], _ => exact ⟨x0, x1, x2, rfl⟩
  have f0 := hf 0 _ rfl
  have f1 := hf 1 _ rfl
  have f2 := hf 2 _ rfl
  simp only [h1, h2, List.drop_succ_cons, List.drop_zero, List.take_succ_cons, List.take_zero, List.getElem?_cons_zero, List.getElem?_cons_succ] at f0 f1 f2
  obtain ⟨s, e, -⟩ := str_of_trod f0
  obtain ⟨s', e', -⟩ := str_of_trod f1
  obtain ⟨y1, rfl⟩ := int_of_trod f2
  obtain rfl : c0 = .string s := by simpa [h1] using e
  obtain rfl : c1 = .string s' := by simpa [h1] using e'
  exact ⟨⟨s, s', y1⟩, rfl⟩
set_option maxRecDepth 100000 in
/-- An image that came in. -/
theorem open_image {r : Reach} {b0 : Nat} {v : Value} {d : DataW H} {p : List MemPlace}
    (hv : Value.okWide Tryz.prog w r b0 75 v) (h : DataW.Trod enc Tryz.prog w base spare held 75 v d p) : ∃ x : GI, ImgAt w (fun b => b < w.heap.size) v x ∧ (x.P.length ≤ 9223372036854775807 ∧ x.D.length ≤ 9223372036854775807 ∧ x.L.length ≤ 9223372036854775807) := by
  obtain ⟨cs, rfl, hsz⟩ := okWide_struct Tryz.underlying75 hv
  have h3 : Tryz.prog.cellsOf 75 = 3 := by kernel_rfl
  rw [h3] at hsz
  obtain ⟨c0, c1, c2, rfl⟩ : ∃ c0 c1 c2, cs = #[c0, c1, c2] := by
    obtain ⟨l⟩ := cs
    match l, hsz with
    | [c0, c1, c2], _ => exact ⟨c0, c1, c2, rfl⟩
  obtain ⟨fuel, hf⟩ := h
  obtain ⟨xs, n, -, -, -, hlen, hf⟩ := DataW.trod_struct Tryz.underlying75 hf
  have h5 : Tryz.prog.cellsOf 71 = 1 := by kernel_rfl
  have h6 : Tryz.prog.cellsOf 72 = 1 := by kernel_rfl
  have h7 : Tryz.prog.cellsOf 73 = 1 := by kernel_rfl
  obtain ⟨x0, x1, x2, rfl⟩ : ∃ x0 x1 x2, xs = [x0, x1, x2] := by
    match xs, hlen with
    | [x0, x1, x2], _ => exact ⟨x0, x1, x2, rfl⟩
  have f0 := hf 0 _ rfl
  have f1 := hf 1 _ rfl
  have f2 := hf 2 _ rfl
  simp only [h5, h6, h7, Value.cells, List.drop_succ_cons, List.drop_zero, List.take_succ_cons, List.take_zero, List.getElem?_cons_zero, List.getElem?_cons_succ] at f0 f1 f2
  obtain ⟨pa, pn, pc, rfl⟩ := slice_form Tryz.underlying71 f0
  obtain ⟨da, dn, dc, rfl⟩ := slice_form Tryz.underlying72 f1
  obtain ⟨la, ln, lc, rfl⟩ := slice_form Tryz.underlying73 f2
  obtain ⟨P, hP, hp1, hp2, hp3⟩ := row_of_trod (T := tProg) Tryz.underlying71 (by kernel_rfl) (by decide) (fun m cs y hcs hy => by
    obtain ⟨x, hx, -⟩ := prog_of_trod hcs hy
    exact ⟨x, hx⟩) f0
  obtain ⟨D, hD, hd1, hd2, hd3⟩ := row_of_trod (T := tDump) Tryz.underlying72 (by kernel_rfl) (by decide) (fun m cs y hcs hy => dump_of_trod hcs hy) f1
  obtain ⟨L, hL, hl1, hl2, hl3⟩ := row_of_trod (T := tLink) Tryz.underlying73 (by kernel_rfl) (by decide) (fun m cs y hcs hy => link_of_trod hcs hy) f2
  subst hP
  subst hD
  subst hL
  unfold maxLen at hp2 hd2 hl2
  exact ⟨⟨P, D, L⟩, ⟨pa, pc, da, dc, la, lc, rfl, hp1, hd1, hl1, hp3, hd3, hl3⟩, by show P.length ≤ _; omega, by show D.length ≤ _; omega, by show L.length ≤ _; omega⟩
end
end Go.Proofs.YtdkcnigghcbnpaaGreat
