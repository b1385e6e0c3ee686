/- What stands under the walks, part A. -/
import Derived.Test.YtdkcnigghcbnpaaGreatSesA
import Derived.Test.YtdkcnigghcbnpaaGreatGenC
import Derived.Test.YtdkcnigghcbnpaaGreatGenB
import Derived.Test.YtdkcnigghcbnpaaGreatGenA
import Derived.Deep.RegionLaw
import Derived.Deep.QuietTactic
import Derived.BigQuiet
import Derived.Test.YtdkcnigghcbnpaaGreatHeldE
/- Tables as the document orders them, plain: what calls make of the ordered pairs. -/
namespace Go.Proofs.YtdkcnigghcbnpaaGreat
set_option linter.unusedVariables false
set_option linter.unusedSimpArgs false
open Go.RowKit Go.MapKept

abbrev keyP (p : Pr) : ByteArray := p.1
def ordP (m : TM) (P : List Pr) : List Pr := if m.kd = 2 then sortK keyP P else P
/-- One more. -/
def raddP (m : TM) (y : Pr) (Q : List Pr) : List Pr := if m.kd = 2 then insK keyP y Q else addP m y Q
def rupdP (m : TM) (k v : ByteArray) (fl : Int) (Q : List Pr) : List Pr :=
  if codeP m k v fl Q = 0 then (if (lookP k Q).isSome then setP k v (useP m k Q) else raddP m (k, v) Q) else Q
section
variable {P Q : List Pr} {m : TM} {k v : ByteArray} {fl : Int}
theorem ordP_perm (m : TM) (P : List Pr) : (ordP m P).Perm P := by
  unfold ordP
  split
  · exact sortK_perm P
  · exact .refl _
theorem ordP_nodup (hn : (P.map (·.1)).Nodup) : ((ordP m P).map (·.1)).Nodup := (((ordP_perm m P).map _).nodup_iff).2 hn
theorem ordP_rises (hn : (P.map (·.1)).Nodup) (h : m.kd = 2) : Rises keyP (ordP m P) := by
  unfold ordP
  rw [if_pos h]
  exact sortK_rises hn
theorem ordP_look (hn : (P.map (·.1)).Nodup) (k : ByteArray) : lookP k (ordP m P) = lookP k P := perm_look (ordP_perm m P) (ordP_nodup hn) k
theorem ordP_len : (ordP m P).length = P.length := (ordP_perm m P).length_eq
theorem ordP_code (hn : (P.map (·.1)).Nodup) : codeP m k v fl (ordP m P) = codeP m k v fl P := by
  unfold codeP addCP
  rw [ordP_look hn, ordP_len]
theorem setP_keys (k v : ByteArray) (P : List Pr) : (setP k v P).map (·.1) = P.map (·.1) := by
  unfold setP
  rw [List.map_map]
  refine List.map_congr_left fun p hp => ?_
  simp only [Function.comp]
  split <;> rfl
theorem ordP_use (hn : (P.map (·.1)).Nodup) (k : ByteArray) : ordP m (useP m k P) = useP m k (ordP m P) := by
  unfold ordP useP
  by_cases h : m.kd = 2
  · simp [h]
  · simp [h]
theorem useP_nodup (hn : (P.map (·.1)).Nodup) (k : ByteArray) : ((useP m k P).map (·.1)).Nodup := (((useP_perm hn m k).map _).nodup_iff).2 hn
theorem ordP_set (hn : (P.map (·.1)).Nodup) (k v : ByteArray) : ordP m (setP k v P) = setP k v (ordP m P) := by
  unfold ordP
  split
  · unfold setP
    exact sortK_map (kb := keyP) (key := keyP) (fun p : Pr => if p.1 = k then (p.1, v) else p) (fun x => by show (if x.1 = k then (x.1, v) else x).1 = x.1; split <;> rfl) hn
  · rfl
theorem ordP_upd (hn : (P.map (·.1)).Nodup) : ordP m (updP m k v fl P) = rupdP m k v fl (ordP m P) := by
  unfold updP rupdP
  rw [ordP_code hn, ordP_look hn]
  split
  · rename_i h0
    split
    · rename_i h1
      rw [ordP_set (useP_nodup hn k), ordP_use hn]
    · rename_i h1
      unfold raddP ordP
      by_cases h : m.kd = 2
      · rw [if_pos h, if_pos h, if_pos h]
        have hlt : ¬ m.mx ≤ (P.length : Int) := by
          intro hle
          unfold codeP addCP at h0
          split at h0
          · omega
          · split at h0
            · omega
            · rw [if_neg (by omega), if_pos ⟨h, hle⟩] at h0
              omega
        unfold addP
        rw [if_pos (by omega), sortK_snoc]
      · rw [if_neg h, if_neg h, if_neg h]
  · rfl
theorem ordP_del (hn : (P.map (·.1)).Nodup) : ordP m (delP m k P) = delP m k (ordP m P) := by
  unfold ordP delP dropP
  by_cases h : m.kd = 2
  · rw [if_pos h, if_pos h, if_neg (by omega), if_neg (by omega)]
    exact sortK_filter _ hn
  · rw [if_neg h, if_neg h]
theorem ordP_delC (hn : (P.map (·.1)).Nodup) : delCP m k (ordP m P) = delCP m k P := by
  unfold delCP
  rw [ordP_look hn]
theorem ordT_kvs {E : List En} (hn : (E.map (·.key)).Nodup) : kvs (if m.kd = 2 then sortK (·.key) E else E) = ordP m (kvs E) := by
  unfold ordP kvs
  split
  · exact (sortK_map (kb := keyP) (key := fun x : En => x.key) (fun x => (x.key, x.data)) (fun x => rfl) hn).symm
  · rfl
end
theorem bless_cmp : ∀ a b : List UInt8, Op.bytesLess a b = decide (Lib.compareBytes a b < 0)
  | [], [] => rfl
  | _ :: _, [] => rfl
  | [], _ :: _ => rfl
  | x :: a, y :: b => by
    unfold Op.bytesLess Lib.compareBytes
    by_cases h : x < y
    · rw [if_pos h]
      simp [h]
    · rw [if_neg h]
      by_cases h2 : y < x
      · rw [if_pos h2]
        have : (x == y) = false := by
          rw [beq_eq_false_iff_ne]
          rintro rfl
          exact absurd h2 (UInt8.lt_irrefl x)
        simp [h, this]
      · rw [if_neg h2]
        have : x = y := UInt8.le_antisymm (UInt8.not_lt.1 h2) (UInt8.not_lt.1 h)
        subst this
        rw [bless_cmp a b]
        simp
theorem keyLt_less (a b : ByteArray) : Op.bytesLess a.toList b.toList = keyLt a b := by
  rw [bless_cmp, Lib.toList_data, Lib.toList_data]
  rfl
/-- Where a new one stands among those that rise. -/
theorem insK_split {α : Type} {key : α → ByteArray} {y : α} : ∀ {A B : List α}, (∀ x ∈ A, keyLt (key x) (key y) = true) → (∀ x, B.head? = some x → keyLt (key x) (key y) = false) → insK key y (A ++ B) = A ++ y :: B
  | [], [], _, _ => rfl
  | [], b :: B, _, h => by
    show (if keyLt (key b) (key y) then b :: insK key y B else y :: b :: B) = y :: b :: B
    rw [h b rfl, if_neg (by simp)]
  | a :: A, B, h1, h2 => by
    show (if keyLt (key a) (key y) then a :: insK key y (A ++ B) else y :: a :: (A ++ B)) = a :: (A ++ y :: B)
    rw [h1 a (by simp), if_pos rfl, insK_split (fun x hx => h1 x (.tail _ hx)) h2]
end Go.Proofs.YtdkcnigghcbnpaaGreat

/- The document's table in memory: its map, its row of entries; find, without. -/
namespace Go.Proofs.YtdkcnigghcbnpaaGreat
set_option linter.unusedVariables false
set_option linter.unusedSimpArgs false
open Go.RowKit Go.MapKept

theorem rentE : Elem Tryz.prog 110 113 (.pointer none) 1 8 := ⟨Tryz.underlying110, by kernel_rfl, rfl, by omega⟩
def ptrs (E : List En) : List Value := E.map fun x => .pointer (some ⟨x.b, 0, none⟩)
theorem ptrs_len (E : List En) : (ptrs E).length = E.length := by simp [ptrs]
theorem ptrs_append (A B : List En) : ptrs (A ++ B) = ptrs A ++ ptrs B := by simp [ptrs]
theorem ptrs_one (E : List En) : ∀ u ∈ ptrs E, u.oneCell' = true := by
  intro u hu
  obtain ⟨x, -, rfl⟩ := List.mem_map.1 hu
  rfl

structure RT (W : World) (bt : Nat) (m : TM) (lv : Value) (E : List En) : Prop where
  right : m.right = true
  row : RowAt W bt 6
  c0 : W.cell? ⟨bt, 0, none⟩ = some (.string m.nm)
  c1 : W.cell? ⟨bt, 1, none⟩ = some (.int .i64 m.kd)
  c2 : W.cell? ⟨bt, 2, none⟩ = some (.int .i64 m.ks)
  c3 : W.cell? ⟨bt, 3, none⟩ = some (.int .i64 m.vs)
  c4 : W.cell? ⟨bt, 4, none⟩ = some (.int .i64 m.mx)
  c5 : W.cell? ⟨bt, 5, none⟩ = some lv
  own : W.ownsRow 0 113 1 lv E.length (ptrs E)
  ne : lv.ownBlock ≠ some bt
  en : ∀ x ∈ E, EnAt W x
  size : ∀ x ∈ E, (x.key.size : Int) = m.ks ∧ (x.data.size : Int) = m.vs
  keys : (E.map (·.key)).Nodup
  blocks : (E.flatMap fun x => [x.b, x.d]).Nodup
  apart : ∀ b, lv.ownBlock = some b → ∀ x ∈ E, b ≠ x.b ∧ b ≠ x.d
  ownb : ∀ x ∈ E, x.b ≠ bt ∧ x.d ≠ bt
  len : (E.length : Int) ≤ m.mx
  arr : m.kd = 1 → E.map (·.key) = (List.range m.mx.toNat).map numK
  rise : m.kd = 2 → Rises (fun x : En => x.key) E
/-- The blocks that it takes. -/
def Rtfp (bt : Nat) (lv : Value) (E : List En) (b : Nat) : Prop := b = bt ∨ lv.ownBlock = some b ∨ ∃ x ∈ E, x.b = b ∨ x.d = b

section
variable {W W' w w0 w1 : World} {bt : Nat} {m : TM} {lv : Value} {E : List En}
theorem RT.lt (h : RT W bt m lv E) : ∀ b, Rtfp bt lv E b → b < W.heap.size := by
  rintro b (rfl | hf | ⟨x, hx, rfl | rfl⟩)
  · exact h.row.lt
  · exact (h.own.lt b hf).2
  · exact (h.en x hx).row.lt
  · exact (h.en x hx).drow.lt
theorem RT.kept {S : Nat → Prop} (h : RT W bt m lv E) (q : Kept S W W') (hS : ∀ b, Rtfp bt lv E b → ¬ S b) : RT W' bt m lv E := by
  have hb := hS bt (.inl rfl)
  have hl := h.row.lt
  exact ⟨h.right, h.row.kept q hb, (q.cell (p := ⟨bt, 0, none⟩) hl hb).trans h.c0, (q.cell (p := ⟨bt, 1, none⟩) hl hb).trans h.c1, (q.cell (p := ⟨bt, 2, none⟩) hl hb).trans h.c2, (q.cell (p := ⟨bt, 3, none⟩) hl hb).trans h.c3,
    (q.cell (p := ⟨bt, 4, none⟩) hl hb).trans h.c4, (q.cell (p := ⟨bt, 5, none⟩) hl hb).trans h.c5, ownsRow_kept h.own q (fun b e => hS b (.inr (.inl e))), h.ne,
    fun x hx => (h.en x hx).kept q (hS _ (.inr (.inr ⟨x, hx, .inl rfl⟩))) (hS _ (.inr (.inr ⟨x, hx, .inr rfl⟩))), h.size, h.keys, h.blocks, h.apart, h.ownb, h.len, h.arr, h.rise⟩
theorem RT.keep (h : RT W bt m lv E) (q : Kept (fun _ => False) W W') : RT W' bt m lv E := h.kept q (fun _ _ e => e)
theorem RT.mx (h : RT W bt m lv E) : E.length ≤ 1024 := by
  have h3 := (rightB_iff _ _ _ _ _).1 h.right
  have := h.len
  omega
/-- What lies at a place. -/
theorem RT.at (h : RT W bt m lv E) {i : Nat} {x : En} (hx : E[i]? = some x) : ∃ g c, lv = .slice (some ⟨g, 0, none⟩) E.length c ∧ W.cell? ⟨g, i, none⟩ = some (.pointer (some ⟨x.b, 0, none⟩)) ∧ W.cell? ⟨x.b, 0, none⟩ = some (.string x.key) := by
  obtain ⟨a, c, rfl, hg, -⟩ := own_form h.own
  have hi := (List.getElem?_eq_some_iff.1 hx).1
  obtain ⟨g, rfl⟩ := hg (by omega)
  exact ⟨g, c, rfl, own_cell h.own (by unfold ptrs; rw [List.getElem?_map, hx]; rfl), (h.en x (List.mem_of_getElem? hx)).key⟩

/-- A key's place, or -1. -/
def findE (k : ByteArray) (E : List En) : Int := match E.findIdx? (fun x => decide (x.key = k)) with | some i => (i : Int) | none => -1
theorem findE_none {k : ByteArray} {E : List En} (h : lookT k E = none) : findE k E = -1 := by
  unfold findE
  have := lookT_none h
  rw [List.findIdx?_eq_none_iff.2 (by simpa using this)]
theorem findE_split {k : ByteArray} {l1 l2 : List En} {x : En} (hk : x.key = k) (h1 : ∀ y ∈ l1, y.key ≠ k) : findE k (l1 ++ x :: l2) = (l1.length : Int) := by
  unfold findE
  have : (l1 ++ x :: l2).findIdx? (fun x => decide (x.key = k)) = some l1.length := by
    rw [List.findIdx?_append, List.findIdx?_eq_none_iff.2 (by simpa using h1)]
    simp [List.findIdx?_cons, hk]
  rw [this]
set_option maxHeartbeats 400000 in
theorem rt_find_miss (h : RT w bt m lv E) {k : ByteArray} (hk : ∀ x ∈ E, x.key ≠ k) : Calls Tryz.prog 76 #[.pointer (some ⟨bt, 0, none⟩), .string k] w fun e w' => e = .returned (.int .i64 (-1)) ∧ w = w' := by
  have hl := h.mx
  obtain ⟨a, c, rfl, hg, -⟩ := own_form h.own
  have hs := h.c5
  go_enter Tryz.func76, Tryz.ntmps76
  go_wp2
  go_loop [5] (fun i => ∃ j : Nat, j ≤ E.length ∧ i = .int .i64 j) (fun i => E.length - (intOf i).toNat)
  case atStart => exact ⟨0, Nat.zero_le _, rfl⟩
  case round =>
    obtain ⟨j, hj, rfl⟩ := hrel
    by_cases hlt : j < E.length
    · obtain ⟨g, c', e, h1, h2⟩ := h.at (List.getElem?_eq_getElem hlt)
      injection e with e1 e2 e3
      subst e1
      subst e3
      have hne := bytes_ne (hk E[j] (List.getElem_mem hlt))
      clear hg
      go_wp2
      go_round
      case rel => exact ⟨j + 1, by omega, by go_num⟩
      case measure => simp [intOf]; omega
    · clear hg
      go_wp2
      go_ret
      exact ⟨rfl, rfl⟩
set_option maxHeartbeats 400000 in
theorem rt_find_hit {l1 l2 : List En} {x : En} (h : RT w bt m lv (l1 ++ x :: l2)) (hk : ∀ p ∈ l1, p.key ≠ x.key) : Calls Tryz.prog 76 #[.pointer (some ⟨bt, 0, none⟩), .string x.key] w fun e w' => e = .returned (.int .i64 l1.length) ∧ w = w' := by
  have hl := h.mx
  obtain ⟨a, c, rfl, hg, -⟩ := own_form h.own
  have hs := h.c5
  have hat : ∀ (j : Nat) (p : En), (l1 ++ x :: l2)[j]? = some p → ∃ (g : Nat) (c' : Nat), a = some ⟨g, 0, none⟩ ∧ w.cell? ⟨g, j, none⟩ = some (.pointer (some ⟨p.b, 0, none⟩)) ∧ w.cell? ⟨p.b, 0, none⟩ = some (.string p.key) := by
    intro j p hp
    obtain ⟨g, c', e, h1, h2⟩ := h.at hp
    injection e with e1 e2 e3
    exact ⟨g, c', e1, h1, h2⟩
  have HAT := Lib.hid hat
  have hN : l1.length < (l1 ++ x :: l2).length := by simp
  generalize (l1 ++ x :: l2).length = N at hl hs hg hN ⊢
  clear hat h
  go_enter Tryz.func76, Tryz.ntmps76
  go_wp2
  go_loop [5] (fun i => ∃ j : Nat, j ≤ l1.length ∧ i = .int .i64 j) (fun i => l1.length - (intOf i).toNat)
  case atStart => exact ⟨0, Nat.zero_le _, rfl⟩
  case round =>
    obtain ⟨j, hj, rfl⟩ := hrel
    have hlt : j < N := by omega
    by_cases hlt1 : j < l1.length
    · obtain ⟨g, c', rfl, h1, h2⟩ := HAT.out j l1[j] (by rw [List.getElem?_append_left hlt1]; exact List.getElem?_eq_getElem hlt1)
      have hne := bytes_ne (hk l1[j] (List.getElem_mem hlt1))
      clear hg
      go_wp2
      go_round
      case rel => exact ⟨j + 1, by omega, by go_num⟩
      case measure => simp [intOf]; omega
    · obtain rfl : j = l1.length := by omega
      obtain ⟨g, c', rfl, h1, h2⟩ := HAT.out l1.length x (by simp)
      have hne := bytes_self x.key
      clear hg
      go_wp2
      go_ret
      exact ⟨rfl, rfl⟩
end
end Go.Proofs.YtdkcnigghcbnpaaGreat

/- The document's table: the entries but one. -/
namespace Go.Proofs.YtdkcnigghcbnpaaGreat
set_option linter.unusedVariables false
set_option linter.unusedSimpArgs false
open Go.RowKit Go.MapKept

section
variable {w : World} {bt : Nat} {m : TM} {lv : Value}
theorem rown_empty (w : World) (e size : Nat) : (w.alloc (.cells #[] e)).ownsRow 0 e size (.slice (some ⟨w.heap.size, 0, none⟩) 0 0) 0 [] :=
  ⟨by simp, .inr ⟨w.heap.size, 0, #[], rfl, Nat.zero_le _, heap_alloc_new w _, Nat.le_refl _, by unfold maxLen; omega, by simp, by simp⟩⟩
theorem rholds_nil {w : World} {a : Option Addr} {ys : List Value} (h : ys.length = 0) : Holds9 w a ys := by
  intro j u hj
  have := (List.getElem?_eq_some_iff.1 hj).1
  omega
theorem rholds_part {w : World} {base e size n g c : Nat} {xs : List Value} (h : w.ownsRow base e size (.slice (some ⟨g, 0, none⟩) n c) n xs) (o : Nat) (ys : List Value) (hy : ∀ j u, ys[j]? = some u → xs[o + j]? = some u) : Holds9 w (some ⟨g, o, none⟩) ys := by
  intro j u hj
  refine ⟨_, rfl, ?_⟩
  rw [add_off]
  exact own_cell h (hy j u hj)

set_option maxRecDepth 100000 in
set_option maxHeartbeats 1000000 in
theorem rt_without_raw {l1 l2 : List En} {x : En} (hs : w.cell? ⟨bt, 5, none⟩ = some lv) (hrow : RowAt w bt 6) (hown : w.ownsRow 0 113 1 lv (l1 ++ x :: l2).length (ptrs (l1 ++ x :: l2))) (hne' : lv.ownBlock ≠ some bt) (hl : (l1 ++ x :: l2).length ≤ 2000) :
    Calls Tryz.prog 78 #[.pointer (some ⟨bt, 0, none⟩), .int .i64 (l1.length : Nat)] w fun e w' => ∃ r, e = .returned r ∧ w'.ownsRow 0 113 1 r (l1 ++ l2).length (ptrs (l1 ++ l2)) ∧ Kept (fun _ => False) w w' ∧ (∀ b, r.ownBlock = some b → w.heap.size ≤ b) := by
  obtain ⟨a, c, rfl, hg, -, hnc⟩ := own_form hown
  have hbr := hrow.lt
  have hlen : (l1 ++ x :: l2).length = l1.length + 1 + l2.length := by simp <;> omega
  obtain ⟨g, rfl⟩ := hg (by omega)
  have hne : g ≠ bt := fun e => hne' (by simp [Value.ownBlock, e])
  rw [hlen] at hs hown hnc hl
  have hf1 := ptrs_len l1
  have hf2 := ptrs_len l2
  obtain ⟨i, hi⟩ : ∃ i, i = l1.length := ⟨_, rfl⟩
  obtain ⟨n, hm⟩ : ∃ n, n = l2.length := ⟨_, rfl⟩
  rw [← hi, ← hm] at hs hown hnc hl
  rw [← hi] at hf1 ⊢
  rw [← hm] at hf2
  have hlen3 : (l1 ++ l2).length = i + n := by simp <;> omega
  have HL3 := Lib.hid hlen3
  have hglt := (hown.lt g rfl).2
  have hown0 : (w.alloc (.cells #[] 113)).drew.ownsRow 0 113 1 (.slice (some ⟨w.heap.size, 0, none⟩) 0 0) 0 [] := rown_empty w 113 1
  have hs1 : (w.alloc (.cells #[] 113)).drew.cell? ⟨bt, 5, none⟩ = some (.slice (some ⟨g, 0, none⟩) (i + 1 + n) c) := ((Kept.one_alloc w _).cell (p := ⟨bt, 5, none⟩) hbr (fun e => e)).trans hs
  have hh1 : ∀ w', Kept (fun b => b ≠ g) w w' → Holds9 w' (some ⟨g, 0, none⟩) (ptrs l1) ∧ Holds9 w' (some ⟨g, i + 1, none⟩) (ptrs l2) := by
    intro w' k
    have := ownsRow_kept hown k (fun b e => by simp [Value.ownBlock] at e; omega)
    refine ⟨rholds_part this 0 _ ?_, rholds_part this (i + 1) _ ?_⟩
    · intro j u hj
      rw [ptrs_append, Nat.zero_add, List.getElem?_append_left (List.getElem?_eq_some_iff.1 hj).1]
      exact hj
    · intro j u hj
      rw [ptrs_append, List.getElem?_append_right (by omega), hf1, show i + 1 + j - i = j + 1 by omega]
      exact hj
  have HK := Lib.hid hh1
  have ci : i ≤ c := by omega
  have hwr : IntKind.i64.wrap ((i : Int) + 1) = (i : Int) + 1 := IntWalk.i64_in _ (by omega)
  have hp1 : (0 : Int) ≤ (i : Int) + 1 := by omega
  have hp3 : (i : Int) ≤ (i : Int) + 1 := by omega
  have hp2 : (i : Int) + 1 ≤ (i : Int) + 1 + (n : Int) := by omega
  have htn : ((i : Int) + 1).toNat = i + 1 := by omega
  have hsub : i + 1 + n - (i + 1) = n := by omega
  have k01 : Kept (fun _ => False) w (w.alloc (.cells #[] 113)).drew := (Kept.one_alloc w _).drew
  have hn1 := (hh1 _ (k01.mono (fun _ _ e => e.elim))).1
  have hf1' : (ptrs l1).length = i * 1 := by omega
  have hf2' : (ptrs l2).length = n * 1 := by omega
  clear hh1 hi hm hg hown hlen hlen3 hf1 hf2 hrow hne'
  go_enter Tryz.func78, Tryz.ntmps78
  have hcs : i + 1 = c ∨ ¬ (c = i + 1) := by omega
  rcases hcs with hcap | hcap
  case' inl =>
    obtain rfl : c = i + 1 := by omega
    obtain rfl : n = 0 := by omega
    rw [Nat.add_zero] at hs hs1 hsub hnc hl
    clear hcap
  all_goals
    go_wp2_with fail
    go_region_law (first
      | (refine step_append_mine rfl (.tmp 5) (.tmp 11) rentE rfl rfl hown0 (some ⟨g, 0, none⟩) i _ (ptrs l1) rfl hf1' hn1 (ptrs_one l1) (by unfold maxLen; omega) (by omega) ?_
         intro a1 c1 w2 o2 k2 b2
         rw [Nat.zero_add] at o2
         have b2' := b2
         clear b2
         have hs2 := (k2.cell (p := ⟨bt, 5, none⟩) (Nat.lt_of_lt_of_le hbr k01.size) (fun e => by have e : some w.heap.size = some bt := e; have := Option.some.inj e; omega)).trans hs1
         have hn2 := (HK.out _ ((k01.mono (S' := fun b => b ≠ g) (fun _ _ e => e.elim)).trans k2 (fun b hb e => by have e : some w.heap.size = some b := e; have := Option.some.inj e; omega))).2
         have hn2' : Holds9 w2 (some ⟨g, i + 1, none⟩) (ptrs l2) ∧ ((ptrs l2).length = 0 → Holds9 w2 (some ⟨g, 0, none⟩) (ptrs l2)) := ⟨hn2, fun h => rholds_nil h⟩
         clear hn2)
      | (refine step_append_mine rfl (.tmp 12) (.tmp 19) rentE rfl rfl o2 (some ⟨g, _, none⟩) _ _ (ptrs l2) rfl hf2' (by first | exact hn2'.1 | exact hn2'.2 (by omega)) (ptrs_one l2) (by unfold maxLen; omega) (by omega) ?_
         intro a3 c3 w3 o3 k3 b3
         have hb1 : ∀ b, (Value.slice a1 i c1).ownBlock = some b → w.heap.size ≤ b := by
           intro b e
           have z1 : (w.alloc (.cells #[] 113)).drew.heap.size = w.heap.size + 1 := by simp
           rw [Nat.zero_add] at b2'
           rcases b2' with h | h
           · have : some w.heap.size = some b := h.symm.trans e
             exact Nat.le_of_eq (Option.some.inj this)
           · have := Option.some.inj (h.symm.trans e)
             omega
         have k12 : Kept (fun _ => False) w w2 := k01.trans k2 (fun b hb e => by have e : some w.heap.size = some b := e; have := Option.some.inj e; omega)
         have k13 : Kept (fun _ => False) w w3 := k12.trans k3 (fun b hb e => by have := hb1 b e; omega)
         have FIN := Lib.hid (And.intro o3 (And.intro k13 (And.intro b3 (And.intro hb1 k12))))
         clear k12 k13 hb1 o3 b3))
    all_goals
      go_wp2_with fail
      go_ret
      obtain ⟨o3, k13, b3, hb1, k12⟩ := FIN.out
      refine ⟨_, rfl, ?_, k13, fun b e => ?_⟩
      · have hL := HL3.out
        simp only [List.length_append, Nat.add_zero] at hL ⊢
        rw [hL, ptrs_append]
        exact o3
      · rcases b3 with h | h
        · exact hb1 b (h.symm.trans e)
        · have := Option.some.inj (h.symm.trans e)
          have := k12.size
          omega
theorem rt_without {l1 l2 : List En} {x : En} (h : RT w bt m lv (l1 ++ x :: l2)) :
    Calls Tryz.prog 78 #[.pointer (some ⟨bt, 0, none⟩), .int .i64 (l1.length : Nat)] w fun e w' => ∃ r, e = .returned r ∧ w'.ownsRow 0 113 1 r (l1 ++ l2).length (ptrs (l1 ++ l2)) ∧ Kept (fun _ => False) w w' ∧ (∀ b, r.ownBlock = some b → w.heap.size ≤ b) :=
  rt_without_raw h.c5 h.row h.own h.ne (by have := h.mx; omega)
end
end Go.Proofs.YtdkcnigghcbnpaaGreat

/- The document's table: an entry is used, looked up, let go. -/
namespace Go.Proofs.YtdkcnigghcbnpaaGreat
set_option linter.unusedVariables false
set_option linter.unusedSimpArgs false
open Go.RowKit Go.MapKept

section
variable {w w1 : World} {bt : Nat} {m : TM} {lv r : Value} {E E' : List En} {k : ByteArray}
/-- Another row is put in. -/
theorem RT.put (h : RT w bt m lv E) (q : Kept (fun _ => False) w w1) (hr : w1.ownsRow 0 113 1 r E'.length (ptrs E')) (hrb : ∀ b, r.ownBlock = some b → w.heap.size ≤ b)
    (hmem : ∀ x ∈ E', x ∈ E ∨ (w.heap.size ≤ x.b ∧ w.heap.size ≤ x.d ∧ EnAt w1 x ∧ (x.key.size : Int) = m.ks ∧ (x.data.size : Int) = m.vs ∧ ∀ b, r.ownBlock = some b → b ≠ x.b ∧ b ≠ x.d))
    (hkeys : (E'.map (·.key)).Nodup) (hblocks : (E'.flatMap fun x => [x.b, x.d]).Nodup) (hlen : (E'.length : Int) ≤ m.mx) (harr : m.kd = 1 → E'.map (·.key) = (List.range m.mx.toNat).map numK) (hrise : m.kd = 2 → Rises (fun x : En => x.key) E') :
    RT (w1.setCell ⟨bt, 5, none⟩ r) bt m r E' ∧ Kept (fun b => b = bt) w (w1.setCell ⟨bt, 5, none⟩ r) := by
  have h1 := h.keep q
  have ks := Kept.one_set w1 ⟨bt, 5, none⟩ r
  have hbt := h.row.lt
  have hrbt : r.ownBlock ≠ some bt := fun e => by have := hrb bt e; omega
  have hx : ∀ x ∈ E', x.b ≠ bt ∧ x.d ≠ bt := fun x hx => by
    rcases hmem x hx with h2 | ⟨h2, h3, -⟩
    · exact h.ownb x h2
    · omega
  refine ⟨⟨h.right, h1.row.setCell _ _, (cell_set_other _ (by omega)).trans h1.c0, (cell_set_other _ (by omega)).trans h1.c1, (cell_set_other _ (by omega)).trans h1.c2, (cell_set_other _ (by omega)).trans h1.c3, (cell_set_other _ (by omega)).trans h1.c4,
    cell_set_same h1.row (by omega) _, ownsRow_kept hr ks (fun b e e2 => hrbt (by have e2 : b = bt := e2; rw [← e2]; exact e)), hrbt, fun x hx' => ?_, fun x hx' => ?_, hkeys, hblocks, fun b hb x hx' => ?_, hx, hlen, harr, hrise⟩, (q.mono fun _ _ e => e.elim).trans ks (fun _ _ e => e)⟩
  · have hn := hx x hx'
    rcases hmem x hx' with h2 | ⟨-, -, h2, -⟩
    · exact (h1.en x h2).kept ks hn.1 hn.2
    · exact h2.kept ks hn.1 hn.2
  · rcases hmem x hx' with h2 | ⟨-, -, -, h2, h3, -⟩
    · exact h.size x h2
    · exact ⟨h2, h3⟩
  · rcases hmem x hx' with h2 | ⟨-, -, -, -, -, h2⟩
    · have := (h.en x h2).row.lt
      have := (h.en x h2).drow.lt
      have := hrb b hb
      omega
    · exact h2 b hb
theorem flat_perm {A B : List En} (h : A.Perm B) : (A.flatMap fun x => [x.b, x.d]).Perm (B.flatMap fun x => [x.b, x.d]) := h.flatMap_right _
/-- Entries that were there. -/
theorem RT.turn (h : RT w bt m lv E) (q : Kept (fun _ => False) w w1) (hr : w1.ownsRow 0 113 1 r E'.length (ptrs E')) (hrb : ∀ b, r.ownBlock = some b → w.heap.size ≤ b) {L : List En} (hp : E'.Perm L) (hs : L.Sublist E) (harr : m.kd ≠ 1) (hrise : m.kd = 2 → E'.Sublist E) :
    RT (w1.setCell ⟨bt, 5, none⟩ r) bt m r E' ∧ Kept (fun b => b = bt) w (w1.setCell ⟨bt, 5, none⟩ r) := by
  refine h.put q hr hrb (fun x hx => .inl (hs.subset (hp.mem_iff.1 hx))) ?_ ?_ ?_ (fun e => absurd e harr) (fun e => (h.rise e).sublist (hrise e))
  · exact ((hp.map _).nodup_iff).2 (h.keys.sublist (hs.map _))
  · exact ((flat_perm hp).nodup_iff).2 (h.blocks.sublist (flat_sub hs))
  · have h1 := hp.length_eq
    have h2 := hs.length_le
    have := h.len
    omega

set_option maxRecDepth 100000 in
set_option maxHeartbeats 1000000 in
theorem rt_use {l1 l2 : List En} {x : En} (h : RT w bt m lv (l1 ++ x :: l2)) :
    Calls Tryz.prog 77 #[.pointer (some ⟨bt, 0, none⟩), .int .i64 (l1.length : Nat)] w fun e w' => e = .returned (.pointer (some ⟨x.b, 0, none⟩)) ∧ ∃ lv', RT w' bt m lv' (if m.kd = 3 then l1 ++ l2 ++ [x] else l1 ++ x :: l2) ∧ Kept (fun b => b = bt) w w' ∧ (∀ b, lv'.ownBlock = some b → lv.ownBlock = some b ∨ w.heap.size ≤ b) := by
  obtain ⟨g, c, rfl, hc1, hc2⟩ := h.at (i := l1.length) (x := x) (by simp)
  have hs := h.c5
  have hk := h.c1
  have hmx := h.mx
  have hlen : l1.length < (l1 ++ x :: l2).length := by simp
  obtain ⟨N, hN⟩ : ∃ N, (l1 ++ x :: l2).length = N := ⟨_, rfl⟩
  have hN2 : l1.length + l2.length + 1 = N := by rw [← hN]; simp <;> omega
  rw [hN] at hlen hs hmx
  have H := Lib.hid h
  have HN := Lib.hid (And.intro hN hN2)
  clear h hN hN2
  by_cases h3 : m.kd = 3
  · rw [if_pos h3]
    rw [h3] at hk
    have H3 := Lib.hid h3
    clear h3
    go_enter Tryz.func77, Tryz.ntmps77
    go_wp2_with fail
    refine (rt_without H.out).mono ?_
    rintro e w1 ⟨r1, rfl, hr1, k1, f1⟩
    have hbt := H.out.row.lt
    have hcb1 := (k1.cell (p := ⟨bt, 5, none⟩) hbt (fun e => e)).trans hs
    have K1 := Lib.hid k1
    obtain ⟨n, hn⟩ : ∃ n, (l1 ++ l2).length = n := ⟨_, rfl⟩
    have hn2 : n + 1 = N := by rw [← hn, List.length_append]; exact HN.out.2
    have F1 := Lib.hid (And.intro f1 hr1)
    have HNN := Lib.hid hn
    obtain ⟨a1, c1, rfl, -, -, hnc1⟩ := own_form hr1
    rw [hn] at hr1 F1
    have hr2 := ownsRow_kept hr1 (Kept.one_alloc w1 (.cells #[.pointer (some ⟨x.b, 0, none⟩)] 113)) (fun _ _ e => e)
    rw [hn] at hnc1 ⊢
    clear f1 hr1 k1 hn hc1 hc2
    go_wp2_with (first
      | (refine wpList_append_mine rfl _ _ rentE rfl rfl hr2 (some ⟨w1.heap.size, 0, none⟩) 1 1 [.pointer (some ⟨x.b, 0, none⟩)] rfl rfl (holds_block (heap_alloc_new w1 _)) (by simp [Value.oneCell']) (by unfold maxLen; omega) (by omega) ?_
         intro a' c' w' o2 k2 b2
         have k12 : Kept (fun _ => False) w w' := (K1.out.trans (Kept.one_alloc w1 _) (fun _ _ e => e)).trans k2 (fun b hb e => by have := F1.out.1 b e; omega)
         have hrow' := (H.out.keep k12).row
         have hcb' := (k12.cell (p := ⟨bt, 5, none⟩) hbt (fun e => e)).trans hs
         have hfb' := hrow'.frozen 5
         have FIN := Lib.hid (And.intro o2 (And.intro k12 b2))
         clear o2 k2 b2 k12 hrow')
      | fail)
    go_ret
    obtain ⟨o2, k12, b2⟩ := FIN.out
    rw [hn2] at o2 b2
    have hE : (l1 ++ l2 ++ [x]).length = N := by rw [List.length_append, HNN.out]; exact hn2
    have hfr : ∀ b, (Value.slice a' N c').ownBlock = some b → w.heap.size ≤ b := fun b e => by
      rcases b2 with h | h
      · exact F1.out.1 b (h.symm.trans e)
      · have := Option.some.inj (h.symm.trans e)
        have := ((K1.out.trans (Kept.one_alloc w1 (.cells #[.pointer (some ⟨x.b, 0, none⟩)] 113)) (fun _ _ e => e))).size
        omega
    obtain ⟨hT, hK⟩ := H.out.turn (E' := l1 ++ l2 ++ [x]) k12 (by rw [hE, ptrs_append]; exact o2) hfr (L := l1 ++ x :: l2) (by rw [List.append_assoc]; exact List.Perm.append_left _ (List.perm_append_singleton x l2)) (.refl _) (by rw [H3.out]; decide) (fun e => by rw [H3.out] at e; exact absurd e (by decide))
    exact ⟨rfl, _, hT, hK, fun b e => .inr (hfr b e)⟩
  · rw [if_neg h3]
    have hk3 : ¬ (m.kd = 3) := h3
    go_enter Tryz.func77, Tryz.ntmps77
    go_wp2_with fail
    go_ret
    exact ⟨rfl, _, H.out, .refl _ _, fun b e => .inl e⟩

end
end Go.Proofs.YtdkcnigghcbnpaaGreat

/- The document's table: Update where nothing new comes in: wrong lengths, flags, an entry that is there. -/
namespace Go.Proofs.YtdkcnigghcbnpaaGreat
set_option linter.unusedVariables false
set_option linter.unusedSimpArgs false
open Go.RowKit Go.MapKept

section
variable {W W' w w1 : World} {bt : Nat} {m : TM} {lv r : Value} {E E' : List En} {k v : ByteArray} {fl : Int}
theorem RT.set (h : RT W bt m lv E) {x : En} (hx : x ∈ E) {v : ByteArray} (hv : (v.size : Int) = m.vs) (he : EnAt W' { x with data := v }) (q : Kept (fun b => b = x.d) W W') : RT W' bt m lv (setT x.key v E) := by
  have hS : ∀ b, lv.ownBlock = some b → ¬ b = x.d := fun b hb => (h.apart b hb x hx).2
  have hbt : ¬ bt = x.d := fun e => (h.ownb x hx).2 e.symm
  have hl := h.row.lt
  have f3 : ptrs (setT x.key v E) = ptrs E := by
    unfold setT ptrs
    rw [List.map_map]
    refine List.map_congr_left fun z _ => ?_
    simp only [Function.comp]
    split <;> rfl
  have f4 : (setT x.key v E).length = E.length := by unfold setT; simp
  have f5 : (setT x.key v E).map (·.key) = E.map (·.key) := by
    unfold setT
    rw [List.map_map]
    refine List.map_congr_left fun z _ => ?_
    simp only [Function.comp]
    split <;> rfl
  have f6 : (setT x.key v E).flatMap (fun z => [z.b, z.d]) = E.flatMap fun z => [z.b, z.d] := by
    unfold setT
    rw [List.flatMap_map]
    refine congrArg (fun f => List.flatMap f E) (funext fun z => ?_)
    split <;> rfl
  have f7 : ∀ z ∈ setT x.key v E, ∃ z0 ∈ E, z.b = z0.b ∧ z.d = z0.d ∧ z.key = z0.key ∧ ((z0.key = x.key ∧ z = { z0 with data := v }) ∨ (z0.key ≠ x.key ∧ z = z0)) := by
    intro z hz
    unfold setT at hz
    obtain ⟨z0, h0, rfl⟩ := List.mem_map.1 hz
    refine ⟨z0, h0, ?_⟩
    by_cases e : z0.key = x.key
    · rw [if_pos e]
      exact ⟨rfl, rfl, rfl, .inl ⟨e, rfl⟩⟩
    · rw [if_neg e]
      exact ⟨rfl, rfl, rfl, .inr ⟨e, rfl⟩⟩
  have one : ∀ z0 ∈ E, z0.key = x.key → z0 = x := by
    intro z0 h0 e
    have hn := h.keys
    obtain ⟨i, hi, rfl⟩ := List.mem_iff_getElem.1 h0
    obtain ⟨j, hj, rfl⟩ := List.mem_iff_getElem.1 hx
    have h2 := List.pairwise_iff_getElem.1 (List.pairwise_map.1 hn)
    rcases Nat.lt_trichotomy i j with h3 | h3 | h3
    · exact (h2 i j hi hj h3 e).elim
    · subst h3; rfl
    · exact (h2 j i hj hi h3 e.symm).elim
  have hris : ∀ {A : List En}, Rises (fun z : En => z.key) A → Rises (fun z : En => z.key) (setT x.key v A) := by
    intro A hA
    unfold Rises setT
    rw [List.pairwise_map]
    refine hA.imp fun {a b} hab => ?_
    have e1 : ∀ z : En, (if z.key = x.key then { z with data := v } else z).key = z.key := fun z => by split <;> rfl
    dsimp only
    rw [e1, e1]
    exact hab
  refine ⟨h.right, h.row.kept q hbt, (q.cell (p := ⟨bt, 0, none⟩) hl hbt).trans h.c0, (q.cell (p := ⟨bt, 1, none⟩) hl hbt).trans h.c1, (q.cell (p := ⟨bt, 2, none⟩) hl hbt).trans h.c2, (q.cell (p := ⟨bt, 3, none⟩) hl hbt).trans h.c3,
    (q.cell (p := ⟨bt, 4, none⟩) hl hbt).trans h.c4, (q.cell (p := ⟨bt, 5, none⟩) hl hbt).trans h.c5, by rw [f3, f4]; exact ownsRow_kept h.own q hS, h.ne, ?_, ?_, by rw [f5]; exact h.keys, by rw [f6]; exact h.blocks, ?_, ?_, by rw [f4]; exact h.len, fun e => by rw [f5]; exact h.arr e, fun e => hris (h.rise e)⟩
  · intro z hz
    obtain ⟨z0, h0, -, -, -, ⟨e, rfl⟩ | ⟨e, rfl⟩⟩ := f7 z hz
    · rw [one z0 h0 e]
      exact he
    · have hap := (blocks_ne h.blocks hx h0).2 e
      exact (h.en z h0).kept q hap.1 hap.2.1
  · intro z hz
    obtain ⟨z0, h0, -, -, e3, ⟨e, rfl⟩ | ⟨e, rfl⟩⟩ := f7 z hz
    · exact ⟨(h.size z0 h0).1, hv⟩
    · exact h.size z h0
  · intro b hb z hz
    obtain ⟨z0, h0, e1, e2, -⟩ := f7 z hz
    rw [e1, e2]
    exact h.apart b hb z0 h0
  · intro z hz
    obtain ⟨z0, h0, e1, e2, -⟩ := f7 z hz
    rw [e1, e2]
    exact h.ownb z0 h0

/-! ### Bytes that are written one by one -/
def mixB (v d : ByteArray) : Nat → ByteArray
  | 0 => d
  | j + 1 => pokeB (mixB v d j) j (v.data.getD j 0)
theorem mixB_size (v d : ByteArray) : ∀ j, (mixB v d j).size = d.size
  | 0 => rfl
  | j + 1 => by unfold mixB; rw [pokeB_size, mixB_size v d j]
theorem mixB_nums (v d : ByteArray) : ∀ j i, j ≤ d.size → (nums (mixB v d j)).getD i 0 = if i < j then ((v.data.getD i 0).toNat : Int) else (nums d).getD i 0
  | 0, i, _ => by rw [if_neg (by omega)]; rfl
  | j + 1, i, h => by
    unfold mixB
    rw [pokeB_nums _ _ _ _ (by rw [mixB_size]; omega), mixB_nums v d j i (by omega)]
    by_cases e : i = j
    · subst e
      rw [if_pos rfl, if_pos (by omega)]
    · rw [if_neg e]
      by_cases e2 : i < j
      · rw [if_pos e2, if_pos (by omega)]
      · rw [if_neg e2, if_neg (by omega)]
theorem nums_inj {a b : ByteArray} (h : nums a = nums b) : a = b := by rw [← strOf_nums a, ← strOf_nums b, h]
theorem mixB_all {v d : ByteArray} (h : v.size = d.size) : mixB v d v.size = v := by
  refine nums_inj (List.ext_getElem? fun i => ?_)
  have h1 := mixB_nums v d v.size i (by omega)
  have l1 : (nums (mixB v d v.size)).length = v.size := by rw [nums_len, mixB_size, h]
  have l2 : (nums v).length = v.size := nums_len v
  by_cases hi : i < v.size
  · rw [List.getElem?_eq_getElem (by omega), List.getElem?_eq_getElem (by omega)]
    rw [List.getD_eq_getElem?_getD, List.getElem?_eq_getElem (by omega), if_pos hi] at h1
    simp only [Option.getD_some] at h1
    rw [h1]
    have hi' : i < v.data.size := hi
    simp [nums, Array.getD, hi', hi]
  · rw [List.getElem?_eq_none (by omega), List.getElem?_eq_none (by omega)]

set_option maxRecDepth 100000 in
theorem rupd_wrong (h : RT w bt m lv E) (hks : k.size ≤ 9223372036854775807) (hvs : v.size ≤ 9223372036854775807) (hw : (k.size : Int) ≠ m.ks ∨ (v.size : Int) ≠ m.vs ∨ fl < 0 ∨ 2 < fl) :
    Calls Tryz.prog 45 #[.pointer (some ⟨bt, 0, none⟩), .string k, .string v, .int .i64 fl] w fun e w' => e = .returned (.int .i64 1) ∧ w = w' := by
  have hc2 := h.c2
  have hc3 := h.c3
  clear h
  generalize m.ks = ks at *
  generalize m.vs = vs at *
  by_cases h1 : (k.size : Int) = ks
  · subst h1
    by_cases h2 : (v.size : Int) = vs
    · subst h2
      by_cases h3 : fl < 0
      · have d3 : decide (fl < 0) = true := by simpa using h3
        clear hw
        go_enter Tryz.func45, Tryz.ntmps45
        go_wp2_with fail
        go_ret
        exact ⟨rfl, rfl⟩
      · have d3 : decide (fl < 0) = false := by simpa using h3
        have h4 : 2 < fl := by omega
        have d4 : decide (2 < fl) = true := by simpa using h4
        clear hw
        go_enter Tryz.func45, Tryz.ntmps45
        go_wp2_with fail
        go_ret
        exact ⟨rfl, rfl⟩
    · have d2 : ((v.size : Int) != vs) = true := by simpa using h2
      clear hw h2
      go_enter Tryz.func45, Tryz.ntmps45
      go_wp2_with fail
      go_ret
      exact ⟨rfl, rfl⟩
  · have d1 : ((k.size : Int) != ks) = true := by simpa using h1
    clear hw h1
    go_enter Tryz.func45, Tryz.ntmps45
    go_wp2_with fail
    go_ret
    exact ⟨rfl, rfl⟩

set_option maxRecDepth 100000 in
/-- There already, and not wanted. -/
theorem rupd_exist {l1 l2 : List En} {x : En} (h : RT w bt m lv (l1 ++ x :: l2)) (hk : ∀ p ∈ l1, p.key ≠ x.key) (hks : (x.key.size : Int) = m.ks) (hvs : (v.size : Int) = m.vs) :
    Calls Tryz.prog 45 #[.pointer (some ⟨bt, 0, none⟩), .string x.key, .string v, .int .i64 1] w fun e w' => e = .returned (.int .i64 4) ∧ w = w' := by
  have hc2 := h.c2
  have hc3 := h.c3
  rw [← hks] at hc2
  rw [← hvs] at hc3
  have H := Lib.hid h
  have HK := Lib.hid hk
  have h3 := (rightB_iff _ _ _ _ _).1 h.right
  have hks' : x.key.size ≤ 9223372036854775807 := by omega
  have hvs' : v.size ≤ 9223372036854775807 := by omega
  clear h hk hks hvs h3
  go_enter Tryz.func45, Tryz.ntmps45
  go_wp2_with fail
  refine (rt_find_hit H.out HK.out).mono ?_
  rintro e w' ⟨rfl, rfl⟩
  go_wp2_with fail
  go_ret
  exact ⟨rfl, rfl⟩
set_option maxRecDepth 100000 in
/-- Not there, and wanted, or an array. -/
theorem rupd_none (h : RT w bt m lv E) (hk : ∀ p ∈ E, p.key ≠ k) (hks : (k.size : Int) = m.ks) (hvs : (v.size : Int) = m.vs) (hf : 0 ≤ fl ∧ fl ≤ 2) (hn : fl = 2 ∨ (fl ≠ 2 ∧ m.kd = 1)) :
    Calls Tryz.prog 45 #[.pointer (some ⟨bt, 0, none⟩), .string k, .string v, .int .i64 fl] w fun e w' => e = .returned (.int .i64 3) ∧ w = w' := by
  have hc1 := h.c1
  have hc2 := h.c2
  have hc3 := h.c3
  rw [← hks] at hc2
  rw [← hvs] at hc3
  have H := Lib.hid h
  have HK := Lib.hid hk
  have h3 := (rightB_iff _ _ _ _ _).1 h.right
  have hks' : k.size ≤ 9223372036854775807 := by omega
  have hvs' : v.size ≤ 9223372036854775807 := by omega
  have d1 : decide (fl < 0) = false := by simp; omega
  have d2 : decide (2 < fl) = false := by simp; omega
  clear h hk hks hvs h3
  rcases hn with rfl | ⟨h2, h1⟩
  · go_enter Tryz.func45, Tryz.ntmps45
    go_wp2_with fail
    refine (rt_find_miss H.out HK.out).mono ?_
    rintro e w' ⟨rfl, rfl⟩
    go_wp2_with fail
    go_ret
    exact ⟨rfl, rfl⟩
  · rw [h1] at hc1
    have d3 : (fl == 2) = false := by simp; omega
    clear h1 h2 hf
    go_enter Tryz.func45, Tryz.ntmps45
    go_wp2_with fail
    refine (rt_find_miss H.out HK.out).mono ?_
    rintro e w' ⟨rfl, rfl⟩
    go_wp2_with fail
    go_ret
    exact ⟨rfl, rfl⟩
set_option maxRecDepth 100000 in
set_option maxHeartbeats 1000000 in
/-- There already: its data takes the value. -/
theorem rupd_there {l1 l2 : List En} {x : En} (h : RT w bt m lv (l1 ++ x :: l2)) (hk : ∀ p ∈ l1, p.key ≠ x.key) (hks : (x.key.size : Int) = m.ks) (hvs : (v.size : Int) = m.vs) (hf : fl = 0 ∨ fl = 2) :
    Calls Tryz.prog 45 #[.pointer (some ⟨bt, 0, none⟩), .string x.key, .string v, .int .i64 fl] w fun e w' => e = .returned (.int .i64 0) ∧ ∃ lv', RT w' bt m lv' (setT x.key v (if m.kd = 3 then l1 ++ l2 ++ [x] else l1 ++ x :: l2)) ∧ Kept (fun b => b = bt ∨ b = x.d) w w' ∧ (∀ b, lv'.ownBlock = some b → lv.ownBlock = some b ∨ w.heap.size ≤ b) := by
  have hc2 := h.c2
  have hc3 := h.c3
  rw [← hks] at hc2
  rw [← hvs] at hc3
  have h3 := (rightB_iff _ _ _ _ _).1 h.right
  have hks' : x.key.size ≤ 9223372036854775807 := by omega
  have hvs' : v.size ≤ 9223372036854775807 := by omega
  have hmx := h.mx
  have hlen : l1.length < (l1 ++ x :: l2).length := by simp
  have hl1 : l1.length ≤ 1024 := by omega
  have d1 : decide (fl < 0) = false := by simp; omega
  have d2 : decide (2 < fl) = false := by simp; omega
  have d3 : (fl == 1) = false := by simp; omega
  have hxm : x ∈ l1 ++ x :: l2 := by simp
  have hbd := (blocks_ne h.blocks hxm hxm).1
  have hxs : v.size = x.data.size := by have := (h.size x hxm).2; omega
  have H := Lib.hid h
  have HK := Lib.hid hk
  have HF := Lib.hid (And.intro hf (And.intro hbd (And.intro hxs (And.intro hvs h3))))
  obtain ⟨E2, hE2⟩ : ∃ E2, (if m.kd = 3 then l1 ++ l2 ++ [x] else l1 ++ x :: l2) = E2 := ⟨_, rfl⟩
  have hx2 : x ∈ E2 := by rw [← hE2]; split <;> simp
  rw [hE2]
  have HE2 := Lib.hid (And.intro hE2 hx2)
  clear hE2 hx2
  clear h hk hks hvs h3 hmx hlen hf hxm hbd hxs
  go_enter Tryz.func45, Tryz.ntmps45
  go_wp2_with fail
  refine (rt_find_hit H.out HK.out).mono ?_
  rintro e w' ⟨rfl, rfl⟩
  go_wp2_with fail
  refine (rt_use H.out).mono ?_
  rintro e w2 ⟨rfl, lv2, h2, k2, f2⟩
  rw [HE2.out.1] at h2
  have hx2 := HE2.out.2
  have H2 := Lib.hid (And.intro h2 (And.intro k2 (And.intro f2 hx2)))
  have he0 := h2.en x hx2
  clear h2 k2 f2 hx2
  have E0 := Lib.hid he0
  clear he0
  go_wp2_with fail
  go_loopw [11] (fun ix wr => ∃ j : Nat, j ≤ v.size ∧ ix = .int .i64 j ∧ EnAt wr { x with data := mixB v x.data j } ∧ Kept (fun b => b = x.d) w2 wr) (fun ix _ => v.size - (intOf ix).toNat)
  case atStart => exact ⟨0, Nat.zero_le _, rfl, E0.out, .refl _ _⟩
  case round =>
    rename World => wr
    obtain ⟨j, hj, rfl, hen, kr⟩ := hrel
    clear E0
    by_cases hlt : j < v.size
    · have hsl := hen.sl
      have hdr := hen.drow
      have hms : (mixB v x.data j).size = v.size := by rw [mixB_size]; exact HF.out.2.2.1.symm
      obtain ⟨u0, hcell⟩ := hdr.some (o := j) (by have h1 : (mixB v x.data j).size ≤ x.c := hen.le; show j < x.c; omega)
      have hfr := hdr.frozen (o := j) (by have h1 : (mixB v x.data j).size ≤ x.c := hen.le; show j < x.c; omega)
      have hvj : v.data.getD j 0 = v[j] := by
        have hlt' : j < v.data.size := hlt
        unfold Array.getD
        rw [dif_pos hlt']
        rfl
      have HE := Lib.hid (And.intro hen (And.intro kr (And.intro hms hvj)))
      rw [show ({ x with data := mixB v x.data j } : En).data.size = v.size from hms] at hsl
      obtain ⟨n, hn⟩ : ∃ n, v.size = n := ⟨_, rfl⟩
      rw [hn] at hsl
      have hjn : j < n := by omega
      have HNN := Lib.hid hn
      clear hen kr hms hvj hdr hn
      go_wp2_with fail
      refine wp_region_heldE 9 (S := fun w' => w'.cell? ⟨x.b, 1, none⟩ = some (.slice (some ⟨x.d, 0, none⟩) n x.c)) (by kernel_rfl) ?_ (fun hHeld => ?_)
      · exact hsl
      refine heldE_take 0 (oi := _) (v := ?_) rfl (by kernel_rfl) (by kernel_rfl) (by kernel_rfl) (by kernel_rfl) (fun _ _ _ h => h) (by rfl) (fun w hSw => ?_) (by assumption) ?_
      rotate_left
      · (try dsimp only at hSw); go_simp; try with_reducible rfl
      try simp only [Act.put, List.setIfInBounds_toArray, List.set_cons_zero, List.set_cons_succ]
      refine heldE_take 1 (oi := _) (v := ?_) rfl (by kernel_rfl) (by kernel_rfl) (by kernel_rfl) (by kernel_rfl) (fun _ _ _ h => h) (by rfl) (fun w hSw => ?_) (by assumption) ?_
      rotate_left
      · (try dsimp only at hSw); go_simp; try with_reducible rfl
      try simp only [Act.put, List.setIfInBounds_toArray, List.set_cons_zero, List.set_cons_succ]
      refine heldE_take 2 (oi := _) (v := ?_) rfl (by kernel_rfl) (by kernel_rfl) (by kernel_rfl) (by kernel_rfl) (fun _ _ _ h => h) (by rfl) (fun w hSw => ?_) (by assumption) ?_
      rotate_left
      · (try dsimp only at hSw); go_simp; try with_reducible rfl
      try simp only [Act.put, List.setIfInBounds_toArray, List.set_cons_zero, List.set_cons_succ]
      refine heldE_take 3 (oi := _) (v := ?_) rfl (by kernel_rfl) (by kernel_rfl) (by kernel_rfl) (by kernel_rfl) (fun _ _ _ h => h) (by rfl) (fun w hSw => ?_) (by assumption) ?_
      rotate_left
      · (try dsimp only at hSw); go_simp; try with_reducible rfl
      try simp only [Act.put, List.setIfInBounds_toArray, List.set_cons_zero, List.set_cons_succ]
      refine heldE_take 4 (oi := _) (v := ?_) rfl (by kernel_rfl) (by kernel_rfl) (by kernel_rfl) (by kernel_rfl) (fun _ _ _ h => h) (by rfl) (fun w hSw => ?_) (by assumption) ?_
      rotate_left
      · (try dsimp only at hSw); go_simp; try with_reducible rfl
      try simp only [Act.put, List.setIfInBounds_toArray, List.set_cons_zero, List.set_cons_succ]
      refine heldE_take 5 (oi := _) (v := ?_) rfl (by kernel_rfl) (by kernel_rfl) (by kernel_rfl) (by kernel_rfl) (fun _ _ _ h => h) (by rfl) (fun w hSw => ?_) (by assumption) ?_
      rotate_left
      · (try dsimp only at hSw); go_simp; try with_reducible rfl
      try simp only [Act.put, List.setIfInBounds_toArray, List.set_cons_zero, List.set_cons_succ]
      refine heldE_take 6 (oi := _) (v := ?_) rfl (by kernel_rfl) (by kernel_rfl) (by kernel_rfl) (by kernel_rfl) (fun _ _ _ h => h) (by rfl) (fun w hSw => ?_) (by assumption) ?_
      rotate_left
      · (try dsimp only at hSw); go_simp; try with_reducible rfl
      try simp only [Act.put, List.setIfInBounds_toArray, List.set_cons_zero, List.set_cons_succ]
      refine heldE_take 7 (oi := _) (v := ?_) rfl (by kernel_rfl) (by kernel_rfl) (by kernel_rfl) (by kernel_rfl) (fun _ _ _ h => h) (by rfl) (fun w hSw => ?_) (by assumption) ?_
      rotate_left
      · (try dsimp only at hSw); go_simp; try with_reducible rfl
      try simp only [Act.put, List.setIfInBounds_toArray, List.set_cons_zero, List.set_cons_succ]
      refine heldE_take 8 (oi := _) (v := ?_) rfl (by kernel_rfl) (by kernel_rfl) (by kernel_rfl) (by kernel_rfl) (fun _ _ _ h => h) (by rfl) (fun w hSw => ?_) (by assumption) ?_
      rotate_left
      · (try dsimp only at hSw); go_simp; try with_reducible rfl
      try simp only [Act.put, List.setIfInBounds_toArray, List.set_cons_zero, List.set_cons_succ]
      refine wpAnyE_ready (rs := [9]) (by kernel_rfl) (by simp) ?_
      refine heldE_last (o := _) rfl (fun KC hKC => ?_) AllReadyE.nil
      go_simp
      refine hKC.out _ _ ?_
      clear hKC KC
      try simp only [Act.put, List.setIfInBounds_toArray, List.set_cons_zero, List.set_cons_succ]
      refine wpAnyE_done (by kernel_rfl) (NoPanic.normal ?_) _
      go_wp2_with fail
      go_roundw
      case rel =>
        refine ⟨j + 1, by omega, by go_num, ?_, (HE.out.2.1).trans (Kept.one_set wr ⟨x.d, j, none⟩ _).drew (fun _ _ e => e)⟩
        have := en_poke HE.out.1 HF.out.2.1 (j := j) (by show j < (mixB v x.data j).size; rw [HE.out.2.2.1, HNN.out]; exact hjn) (v.data.getD j 0)
        rw [HE.out.2.2.2] at this
        have e2 : mixB v x.data (j + 1) = pokeB (mixB v x.data j) j v[j] := by rw [← HE.out.2.2.2]; rfl
        rw [e2]
        exact this.kept ((Kept.refl (fun _ => False) _).drew) (fun e => e) (fun e => e)
      case measure => simp [intOf]; omega
    · obtain rfl : j = v.size := by omega
      go_wp2_with fail
      go_ret
      rw [mixB_all HF.out.2.2.1] at hen
      exact ⟨rfl, lv2, H2.out.1.set H2.out.2.2.2 HF.out.2.2.2.1 hen kr, (H2.out.2.1.mono fun _ _ e => .inl e).trans kr (fun _ _ e => .inr e), H2.out.2.2.1⟩
end
end Go.Proofs.YtdkcnigghcbnpaaGreat
