/- What stands under the walks, part D. -/
import Derived.Test.YtjkgimloafpipaaGreatRestore
import Derived.Test.YtjkgimloafpipaaGreatDocB
import Derived.Test.YtjkgimloafpipaaGreatRight
import Derived.Test.YtjkgimloafpipaaGreatGenA
import Derived.Test.YtjkgimloafpipaaGreatSesA
import Derived.IntWalk
import Derived.Test.YtjkgimloafpipaaGreatGenE
/- scan.Batch, Next and Snapshot at a table's pairs. -/
namespace Go.Proofs.YtjkgimloafpipaaGreat
set_option linter.unusedVariables false
set_option linter.unusedSimpArgs false
open Go.RowKit Go.MapKept

section
variable {bt br : Nat} {m : TM} {P Q : List Pr} {Fp X : Nat → Prop} {W W0 : World}
/-- A row of pairs of one's own. -/
def PairsRow (w' : World) (W : World) (sv : Value) (L : List Pr) : Prop := w'.ownsRow 0 50 2 sv L.length (prV L) ∧ ∀ b, sv.ownBlock = some b → W.heap.size ≤ b
theorem ses_batch (h : Ses m bt P Fp W) (after : ByteArray) (first : Bool) (n : Int) :
    Calls Tryz.prog 21 #[.pointer (some ⟨bt, 0, none⟩), .string after, .bool first, .int .i64 n] W fun e w' => ∃ sv, e = .returned (.tuple #[sv, .bool (batchP n (aboveP after first P)).2]) ∧ PairsRow w' W sv (batchP n (aboveP after first P)).1 ∧ Kept (fun _ => False) W w' := by
  obtain ⟨iv, E, F, hT, rfl, -⟩ := h
  refine (batch_any hT after first n).mono ?_
  rintro e w' ⟨sv, rfl, h1, h2, h3⟩
  exact ⟨sv, rfl, ⟨h1, h2⟩, h3⟩
theorem ses_next (h : Ses m bt P Fp W) (after : ByteArray) (first : Bool) :
    Calls Tryz.prog 27 #[.pointer (some ⟨bt, 0, none⟩), .string after, .bool first] W fun e w' => e = .returned (.tuple #[.string (nextP (aboveP after first P)).1, .bool (nextP (aboveP after first P)).2]) ∧ Kept (fun _ => False) W w' := by
  obtain ⟨iv, E, F, hT, rfl, -⟩ := h
  exact next_any hT after first
/-- Bytes of one's own, with room or without. -/
def OwnBytes (w' : World) (W : World) (sv : Value) (s : ByteArray) : Prop := w'.ownsRow 0 5 1 sv s.size (byteVs s) ∧ ∀ b, sv.ownBlock = some b → W.heap.size ≤ b
theorem ses_snap (h : Ses m bt P Fp W) :
    Calls Tryz.prog 18 #[.pointer (some ⟨bt, 0, none⟩)] W fun e w' => ∃ sv, e = .returned sv ∧ OwnBytes w' W sv (snapB (ordP m P)) ∧ Kept (fun _ => False) W w' := by
  obtain ⟨iv, E, F, hT, rfl, -⟩ := h
  rw [kvs_ordT hT.keys]
  refine (snap_any hT).mono ?_
  rintro e w' ⟨sv, rfl, h1, h2, h3⟩
  exact ⟨sv, rfl, ⟨h1, h2⟩, h3⟩
theorem ses_restore (m : TM) {a : Option Addr} {T c : Nat} {b : ByteArray} {W : World} (hb : BytesAt W a T b) (hTc : T ≤ c) (hbig : T ≤ 1000000) : Calls Tryz.prog 16 #[m.v, .slice a T c] W (ResPost m b W) := restore_any m hb hTc hbig
theorem OwnBytes.form {w W : World} {sv : Value} {s : ByteArray} (h : OwnBytes w W sv s) : ∃ a c, sv = .slice a s.size c ∧ s.size ≤ c ∧ BytesAt w a s.size s ∧ ∀ b o, a = some ⟨b, o, none⟩ → W.heap.size ≤ b := by
  obtain ⟨h1, h2⟩ := h
  obtain ⟨a, c, rfl, hg, hz, hc⟩ := own_form h1
  refine ⟨a, c, rfl, ?_, own_bytesAt h1 rfl, fun b o e => ?_⟩
  · omega
  · subst e
    exact h2 b rfl
end
end Go.Proofs.YtjkgimloafpipaaGreat

/- law11.shown: what its table holds, plain. -/
namespace Go.Proofs.YtjkgimloafpipaaGreat
set_option linter.unusedVariables false
set_option linter.unusedSimpArgs false
open Go.RowKit Go.MapKept

def sh11 : TM := ⟨⟨#[109]⟩, 2, 1, 1, 5⟩
abbrev cA : ByteArray := ⟨#[97]⟩
abbrev cB : ByteArray := ⟨#[98]⟩
abbrev cC : ByteArray := ⟨#[99]⟩
abbrev c1 : ByteArray := ⟨#[49]⟩
def sh11P : List Pr := [(cC, c1), (cA, c1), (cB, c1)]
def sh11S : ByteArray := ⟨#[97, 49, 98, 49, 99, 49]⟩
def sh11X : ByteArray := ⟨#[98, 49, 97, 49]⟩
theorem sh11_right : sh11.right = true := by decide
theorem sh11_new : newP sh11 = [] := by decide
theorem sh11_u1 : codeP sh11 cC c1 0 [] = 0 ∧ updP sh11 cC c1 0 [] = [(cC, c1)] := by decide +kernel
theorem sh11_u2 : codeP sh11 cA c1 0 [(cC, c1)] = 0 ∧ updP sh11 cA c1 0 [(cC, c1)] = [(cC, c1), (cA, c1)] := by decide +kernel
theorem sh11_u3 : codeP sh11 cB c1 0 [(cC, c1), (cA, c1)] = 0 ∧ updP sh11 cB c1 0 [(cC, c1), (cA, c1)] = sh11P := by decide +kernel
def shK : Nat → ByteArray
  | 0 => cC
  | 1 => cA
  | _ => cB
def shPs : Nat → List Pr
  | 0 => []
  | 1 => [(cC, c1)]
  | 2 => [(cC, c1), (cA, c1)]
  | _ => sh11P
theorem sh11_step {k : Nat} (h : k < 3) : codeP sh11 (shK k) c1 0 (shPs k) = 0 ∧ updP sh11 (shK k) c1 0 (shPs k) = shPs (k + 1) := by
  have : k = 0 ∨ k = 1 ∨ k = 2 := by omega
  rcases this with rfl | rfl | rfl
  · exact sh11_u1
  · exact sh11_u2
  · exact sh11_u3
theorem shK_size (k : Nat) : (shK k).size = 1 := by
  unfold shK
  split <;> rfl
theorem sh11_batch : batchP 2 (aboveP ⟨#[]⟩ true sh11P) = ([(cA, c1), (cB, c1)], true) := by decide +kernel
theorem sh11_next : nextP (aboveP cB false sh11P) = (cC, true) := by decide +kernel
theorem sh11_no : nextP (aboveP cC false sh11P) = (⟨#[]⟩, false) := by decide +kernel
theorem sh11_snap : snapB (ordP sh11 sh11P) = sh11S := by decide +kernel
theorem sh11_res : resP sh11 sh11S = some [(cA, c1), (cB, c1), (cC, c1)] := by decide +kernel
theorem sh11_bad : resP sh11 sh11X = none := by decide +kernel
end Go.Proofs.YtjkgimloafpipaaGreat

/- A small map, out of four numbers: plain. -/
namespace Go.Proofs.YtjkgimloafpipaaGreat
set_option linter.unusedVariables false
set_option linter.unusedSimpArgs false
open Go.RowKit Go.MapKept

/-- A small map. -/
def smallM (kind key value most : Int) : TM :=
  ⟨⟨#[109]⟩, 1 + (bits .and .i64 kind 255).tmod 3, if (bits .and .i64 kind 255).tmod 3 = 0 then 4 else 1 + bits .and .i64 key 3, 1 + bits .and .i64 value 7, 1 + (bits .and .i64 most 255).tmod 12⟩
theorem small_nums (kind key value most : Int) : ∃ K Y V X : Nat, K < 3 ∧ Y < 4 ∧ V < 8 ∧ X < 12 ∧ (bits .and .i64 kind 255).tmod 3 = (K : Int) ∧ bits .and .i64 key 3 = (Y : Int) ∧ bits .and .i64 value 7 = (V : Int) ∧ (bits .and .i64 most 255).tmod 12 = (X : Int) := by
  obtain ⟨A, hA, hA'⟩ := mask_nat kind 8 (by omega) 255 (by decide)
  obtain ⟨Y, hY, hY'⟩ := mask_nat key 2 (by omega) 3 (by decide)
  obtain ⟨V, hV, hV'⟩ := mask_nat value 3 (by omega) 7 (by decide)
  obtain ⟨X, hX, hX'⟩ := mask_nat most 8 (by omega) 255 (by decide)
  refine ⟨A % 3, Y, V, X % 12, Nat.mod_lt _ (by omega), by simpa using hY', by simpa using hV', Nat.mod_lt _ (by omega), ?_, hY, hV, ?_⟩
  · rw [hA]
    exact tmod_nat A 3
  · rw [hX]
    exact tmod_nat X 12
theorem small_right (kind key value most : Int) : (smallM kind key value most).right = true ∧ (smallM kind key value most).ks ≤ 4 ∧ (smallM kind key value most).vs ≤ 8 ∧ (smallM kind key value most).mx ≤ 12 := by
  obtain ⟨K, Y, V, X, h1, h2, h3, h4, e1, e2, e3, e4⟩ := small_nums kind key value most
  unfold smallM
  rw [e1, e2, e3, e4]
  refine ⟨?_, ?_, by show (1 : Int) + V ≤ 8; omega, by show (1 : Int) + X ≤ 12; omega⟩
  · show rightB ⟨#[109]⟩ (1 + (K : Int)) (if (K : Int) = 0 then 4 else 1 + (Y : Int)) (1 + (V : Int)) (1 + (X : Int)) = true
    refine (rightB_iff _ _ _ _ _).2 ⟨by decide, by omega, by omega, ?_, ?_, ?_, by omega, by omega, by omega, by omega⟩
    · split <;> omega
    · split <;> omega
    · intro e
      rw [if_pos (by omega)]
  · show (if (K : Int) = 0 then (4 : Int) else 1 + Y) ≤ 4
    split <;> omega
end Go.Proofs.YtjkgimloafpipaaGreat

/- Arguments in memory: puts (two texts each). -/
namespace Go.Proofs.YtjkgimloafpipaaGreat
set_option linter.unusedVariables false
set_option linter.unusedSimpArgs false
open Go.ChangeShapes Go.WideShapes Go.Deep

/-- A put's cells. -/
structure PutAt (w : World) (b o : Nat) (s : Pr) : Prop where
  c0 : w.cell? ⟨b, o, none⟩ = some (.string s.1)
  c1 : w.cell? ⟨b, o + 1, none⟩ = some (.string s.2)
  sk : s.1.size ≤ 9223372036854775807
  sv : s.2.size ≤ 9223372036854775807
def Puts (w : World) (a : Option Addr) (n : Nat) (ss : Nat → Pr) : Prop := ∀ i, i < n → ∃ b o, a = some ⟨b, o, none⟩ ∧ b < w.heap.size ∧ PutAt w b (o + i * 2) (ss i)
theorem PutAt.kept {S : Nat → Prop} {w w' : World} {b o : Nat} {s : Pr} (h : PutAt w b o s) (hb : b < w.heap.size) (k : Kept S w w') (hS : ¬ S b) : PutAt w' b o s :=
  ⟨(k.cell (p := ⟨b, o, none⟩) hb hS).trans h.c0, (k.cell (p := ⟨b, o + 1, none⟩) hb hS).trans h.c1, h.sk, h.sv⟩

theorem puts_of {H : Type} {enc : TypeId × Value → H} {P : Program} {w : World} {base : Nat} {spare : Nat → Bool} {held : Bool} {t e : TypeId} {fs : Array Field} {fuel : Nat} {a : Option Addr} {n c : Nat} {x : DataW H × List MemPlace}
    (ht : P.underlying t = some (.slice e)) (he : P.underlying e = some (.struct fs)) (hone : oneCellFields P fs = true) (hC : P.cellsOf e = fs.size) {f0 f1 : Field} (hfs : fs = #[f0, f1])
    (h0 : P.underlying f0.type = some .string) (h1 : P.underlying f1.type = some .string)
    (h : DataW.trod enc P w base spare held fuel t [.slice a n c] = some x) :
    ∃ ss, Puts w a n ss ∧ n ≤ 9223372036854775807 := by
  rcases open_slice_fields ht he hone hC h with ⟨hcs, _⟩ | ⟨a', len, cap, m, D, Pl, hcs, hb, hl, hm, hmm, hx, hi⟩
  · simp only [List.cons.injEq, Value.slice.injEq, and_true] at hcs
    obtain ⟨rfl, rfl, rfl⟩ := hcs
    exact ⟨fun _ => ⟨ByteArray.empty, ByteArray.empty⟩, fun i hi => by omega, by omega⟩
  · simp only [List.cons.injEq, Value.slice.injEq, and_true] at hcs
    obtain ⟨rfl, rfl, rfl⟩ := hcs
    subst hfs
    have hnm : n ≤ m := by rw [hmm]; split <;> omega
    have key : ∀ i, ∃ s : Pr, i < n → ∃ b o, some a' = some ⟨b, o, none⟩ ∧ b < w.heap.size ∧ PutAt w b (o + i * 2) s := by
      intro i
      by_cases hin : i < n
      · obtain ⟨ys, n', _, _, _, hf⟩ := hi i (by omega)
        obtain ⟨v0, y0, c0, _, t0⟩ := hf 0 f0 rfl
        obtain ⟨v1, y1, c1, _, t1⟩ := hf 1 f1 rfl
        obtain ⟨z0, e0, _, hs1⟩ := DataW.trod_string h0 t0
        obtain ⟨z1, e1, _, hs2⟩ := DataW.trod_string h1 t1
        simp only [List.cons.injEq, and_true] at e0 e1
        subst e0; subst e1
        obtain ⟨b, o, sp⟩ := a'
        obtain ⟨ys0, n0, _, _, _, hf0⟩ := hi 0 (by omega)
        obtain ⟨v00, y00, c00, _, _⟩ := hf0 0 f0 rfl
        have hsp : sp = none := by simpa [Addr.add] using World.cell?_spot c00
        subst hsp
        rw [add_flat] at c0 c1
        simp only [List.size_toArray, List.length_cons, List.length_nil, Nat.reduceAdd, Nat.add_zero, ← Nat.add_assoc] at c0 c1
        unfold maxLen at hs1 hs2
        exact ⟨⟨z0, z1⟩, fun _ => ⟨b, o, rfl, World.block_lt_of_cell? w _ c0, ⟨c0, c1, hs1, hs2⟩⟩⟩
      · exact ⟨⟨ByteArray.empty, ByteArray.empty⟩, fun h => absurd h hin⟩
    refine ⟨fun i => (key i).choose, fun i hin => (key i).choose_spec hin, ?_⟩
    unfold maxLen at hm
    omega
end Go.Proofs.YtjkgimloafpipaaGreat

/- What stands above the key that was told last, plain. -/
namespace Go.Proofs.YtjkgimloafpipaaGreat
set_option linter.unusedVariables false
set_option linter.unusedSimpArgs false
open Go.RowKit Go.MapKept

/-- The last of some keys. -/
def lastK (l : List ByteArray) : ByteArray := l.getLastD ⟨#[]⟩
theorem lastK_snoc (l : List ByteArray) (k : ByteArray) : lastK (l ++ [k]) = k := by simp [lastK]
theorem lastK_map {A : List Pr} (h : A ≠ []) : ∃ A' z, A = A' ++ [z] ∧ lastK (A.map (·.1)) = z.1 := by
  obtain ⟨A', z, rfl⟩ := (List.eq_nil_or_concat A).resolve_left h
  refine ⟨A', z, by rw [List.concat_eq_append], ?_⟩
  rw [List.concat_eq_append, List.map_append]
  exact lastK_snoc _ _
/-- Behind those that were told stand the others. -/
theorem above_split {P A B : List Pr} (hn : (P.map (·.1)).Nodup) (h : pairsP P = A ++ B) : aboveP (lastK (A.map (·.1))) (decide (A.length = 0)) P = B := by
  have hr := pairsP_rises hn
  unfold aboveP
  rw [h] at hr ⊢
  unfold Rises at hr
  rw [List.pairwise_append] at hr
  obtain ⟨h1, h2, h3⟩ := hr
  rw [List.filter_append]
  by_cases h0 : A = []
  · subst h0
    rw [List.filter_nil, List.nil_append, List.filter_eq_self]
    intro q _
    rfl
  · obtain ⟨A', z, rfl, hz⟩ := lastK_map h0
    rw [hz, decide_eq_false (by simp)]
    simp only [Bool.false_or]
    rw [List.filter_eq_nil_iff.2, List.nil_append, List.filter_eq_self.2]
    · intro q hq
      exact h3 z (by simp) q hq
    · intro q hq hc
      rcases List.mem_append.1 hq with hq | hq
      · have := (List.pairwise_append.1 h1).2.2 q hq z (by simp)
        have := keyLt_asymm hc
        simp_all
      · rw [List.mem_singleton] at hq
        subst hq
        rw [keyLt_irrefl] at hc
        cases hc
theorem above_drop {P : List Pr} (hn : (P.map (·.1)).Nodup) (j : Nat) (hj : j ≤ (pairsP P).length) : aboveP (lastK (((pairsP P).take j).map (·.1))) (decide (j = 0)) P = (pairsP P).drop j := by
  have h := above_split hn (A := (pairsP P).take j) (B := (pairsP P).drop j) (List.take_append_drop _ _).symm
  rwa [List.length_take, Nat.min_eq_left hj] at h
theorem next_of {P : List Pr} (hn : (P.map (·.1)).Nodup) {pre rest : List ByteArray} {k : ByteArray} (h : pre ++ k :: rest = keysP P) : nextP (aboveP (lastK pre) (decide (pre.length = 0)) P) = (k, true) := by
  unfold keysP at h
  obtain ⟨A, B, e, hA, hB⟩ := List.map_eq_append_iff.1 h.symm
  obtain ⟨p, C, rfl, hp, hC⟩ := List.map_eq_cons_iff.1 hB
  have := above_split hn e
  rw [← hA, List.length_map, this, ← hp]
  rfl
end Go.Proofs.YtjkgimloafpipaaGreat
