/- TableOrder: the last loop's state: the table, the row, the boxes, the marks of ranges. -/
import Derived.Test.YtalahbmahpgkeaaOrdSX
import Derived.Test.YtalahbmahpgkeaaGenD
namespace Go.Proofs.Ytalahbmahpgkeaa
set_option linter.unusedVariables false
set_option linter.unusedSimpArgs false
open Go.RowKit Go.MapKept

structure O4 (W0 : World) (k bt ob ib g gc : Nat) (os : List Nat) (nb j : Nat) (dl : List Nat) (P : List Pr) (w : World) : Prop where
  tab : SX W0 (ordM k) bt (fun b => b ∈ ob :: g :: ib :: nb :: dl) P w
  bo : Box w ob (.slice (some ⟨g, 0, none⟩) k gc)
  row : w.ownsRow 0 5 1 (.slice (some ⟨g, 0, none⟩) k gc) k (u8s os)
  bi : Box w ib (.int .i64 (k : Int))
  bn : Box w nb (.int .i64 (j : Int))
  nodup : (ob :: g :: ib :: nb :: dl).Nodup
  at' : ∀ b ∈ ob :: g :: ib :: nb :: dl, W0.heap.size ≤ b ∧ b < w.heap.size
  marks : ∀ d ∈ dl, w.heap[d]? = some (.deferred (some []))
  back : Kept (fun _ => False) W0 w
section
variable {W0 w w0 w1 w2 w' : World} {k bt ob ib g gc nb j : Nat} {os dl : List Nat} {P : List Pr} {S : Nat → Prop} {a va : Option Addr} {l c vl vc : Nat} {ky v : ByteArray} {fl : Int}
/-- Blocks outside of these changed, the table among them. -/
theorem O4.step {P' : List Pr} (h : O4 W0 k bt ob ib g gc os nb j dl P w) (q : Kept S w w1) (hS : ∀ b, S b → b ∉ ob :: g :: ib :: nb :: dl ∧ W0.heap.size ≤ b) (ht : SX W0 (ordM k) bt (fun b => b ∈ ob :: g :: ib :: nb :: dl) P' w1) : O4 W0 k bt ob ib g gc os nb j dl P' w1 := by
  have hq := q.size
  have hb := h.back.size
  refine ⟨ht, h.bo.kept q (fun e => (hS _ e).1 (by simp)), ownsRow_kept h.row q (fun b hb e => (hS b e).1 (by cases hb; simp)), h.bi.kept q (fun e => (hS _ e).1 (by simp)), h.bn.kept q (fun e => (hS _ e).1 (by simp)), h.nodup, fun b hb => by have := h.at' b hb; omega, fun d hd => ?_, h.back.trans q (fun b hb e => by have := (hS b e).2; omega)⟩
  have := h.marks d hd
  exact (q.block d (Array.getElem?_eq_some_iff.1 this).1 (fun e => (hS d e).1 (by simp [hd]))).trans this
theorem O4.above (h : O4 W0 k bt ob ib g gc os nb j dl P w) (q : Kept (fun b => w.heap.size ≤ b) w w1) : O4 W0 k bt ob ib g gc os nb j dl P w1 := by
  have hb := h.back.size
  exact h.step q (fun b e => ⟨fun hm => by have := h.at' b hm; omega, by omega⟩) (h.tab.kept q (fun b e => .inr e))
theorem O4.keep (h : O4 W0 k bt ob ib g gc os nb j dl P w) (q : Kept (fun _ => False) w w1) : O4 W0 k bt ob ib g gc os nb j dl P w1 := h.above (q.mono fun _ _ e => e.elim)
theorem o4_upd (h : O4 W0 k bt ob ib g gc os nb j dl P w0) (q : Kept (fun _ => False) w0 w1) (hk : BytesAt w1 a l ky) (hv : BytesAt w1 va vl v) (hva : ∀ b o, va = some ⟨b, o, none⟩ → w0.heap.size ≤ b) :
    Calls Try.prog 20 #[.pointer (some ⟨bt, 0, none⟩), .slice a l c, .slice va vl vc, .int .i64 fl] w1 fun e w' => e = .returned (.int .i64 (codeP (ordM k) ky v fl P)) ∧ O4 W0 k bt ob ib g gc os nb j dl (updP (ordM k) ky v fl P) w' := by
  refine (sx_upd (c := c) (vc := vc) (fl := fl) h.tab (fun b hb => (h.at' b hb).2) h.back.size q hk hv hva).mono ?_
  rintro e w' ⟨rfl, hs, kk⟩
  exact ⟨rfl, h.step kk (fun b e => e) hs⟩
/-- A range's mark, and the counter's next box. -/
theorem O4.next {d nb' : Nat} (h : O4 W0 k bt ob ib g gc os nb j dl P w) (q : Kept (fun _ => False) w w1) (hd : w1.heap[d]? = some (.deferred (some []))) (hdl : w.heap.size ≤ d) (hb : Box w1 nb' (.int .i64 ((j + 1 : Nat) : Int))) (hnb : w.heap.size ≤ nb') (hne : nb' ≠ d) : O4 W0 k bt ob ib g gc os nb' (j + 1) (d :: dl) P w1 := by
  have h1 := h.keep q
  have hat := h.at'
  have hlt := (Array.getElem?_eq_some_iff.1 hd).1
  have hq := q.size
  have hbk := h.back.size
  have hnd := h.nodup
  refine ⟨(h.tab.more (fun b hb => ?_)).kept q (fun b e => e.elim), h1.bo, h1.row, h1.bi, hb, ?_, ?_, ?_, h1.back⟩
  · simp only [List.mem_cons] at hb
    rcases hb with rfl | rfl | rfl | rfl | rfl | hb
    · exact .inl (by simp)
    · exact .inl (by simp)
    · exact .inl (by simp)
    · exact .inr hnb
    · exact .inr hdl
    · exact .inl (by simp [hb])
  · have a1 := hat ob (by simp)
    have a2 := hat g (by simp)
    have a3 := hat ib (by simp)
    have a4 : ∀ x ∈ dl, x < w.heap.size := fun x hx => (hat x (by simp [hx])).2
    simp only [List.nodup_cons, List.mem_cons, not_or] at hnd ⊢
    obtain ⟨⟨n1, n2, n3, n4⟩, ⟨m1, m2, m3⟩, ⟨l1, l2⟩, l3, l4⟩ := hnd
    exact ⟨⟨n1, n2, by omega, by omega, n4⟩, ⟨m1, by omega, by omega, m3⟩, ⟨by omega, by omega, l2⟩, ⟨hne, fun h => by have := a4 _ h; omega⟩, fun h => by have := a4 _ h; omega, l4⟩
  · intro b hb2
    simp only [List.mem_cons] at hb2
    rcases hb2 with rfl | rfl | rfl | rfl | rfl | hb2
    · have := hat b (by simp); omega
    · have := hat b (by simp); omega
    · have := hat b (by simp); omega
    · have := hb.lt; omega
    · omega
    · have := hat b (by simp [hb2]); omega
  · intro x hx
    rcases List.mem_cons.1 hx with rfl | hx
    · exact hd
    · exact h1.marks x hx
/-- The start. -/
theorem o4_start {dk : Nat} (hsx : SX W0 (ordM k) bt (fun b => b = ob ∨ b = g) P w) (ho : Box w ob (.slice (some ⟨g, 0, none⟩) k gc)) (hr : w.ownsRow 0 5 1 (.slice (some ⟨g, 0, none⟩) k gc) k (u8s os)) (hb : Kept (fun _ => False) W0 w) (hgo : g ≠ ob) (hg : W0.heap.size ≤ g ∧ g < w.heap.size) (hob : W0.heap.size ≤ ob)
    (q : Kept (fun b => w.heap.size ≤ b) w w1) (hi : Box w1 ib (.int .i64 (k : Int))) (hib : w.heap.size ≤ ib) (hdk : w1.heap[dk]? = some (.deferred (some []))) (hdl : w.heap.size ≤ dk) (hdi : dk ≠ ib) (hbn : Box w1 nb (.int .i64 ((0 : Nat) : Int))) (hnl : w.heap.size ≤ nb) (hn1 : nb ≠ ib) (hn2 : nb ≠ dk) : O4 W0 k bt ob ib g gc os nb 0 [dk] P w1 := by
  have hq := q.size
  have hbs := hb.size
  have hdlt := (Array.getElem?_eq_some_iff.1 hdk).1
  have hol := ho.lt
  have hil := hi.lt
  have hnlt := hbn.lt
  refine ⟨(hsx.more (fun b hb => ?_)).kept q (fun b e => .inr e), ho.kept q (by omega), ownsRow_kept hr q (fun b hb e => by cases hb; exact absurd e (by show ¬ w.heap.size ≤ g; omega)), hi, hbn, ?_, ?_, fun d hd => by rw [List.mem_singleton.1 hd]; exact hdk, hb.trans q (fun b hb e => by omega)⟩
  · simp only [List.mem_cons, List.not_mem_nil, or_false] at hb
    omega
  · simp only [List.nodup_cons, List.mem_cons, List.not_mem_nil, or_false, not_or, not_false_eq_true, List.nodup_nil, and_true]
    omega
  · intro b hb2
    simp only [List.mem_cons, List.not_mem_nil, or_false] at hb2
    omega
end
theorem nodup_inj {l : List Nat} (h : l.Nodup) {i j : Nat} {hi : i < l.length} {hj : j < l.length} (e : l[i] = l[j]) : i = j := by
  have h2 := List.pairwise_iff_getElem.1 h
  rcases Nat.lt_trichotomy i j with h3 | h3 | h3
  · exact (h2 i j hi hj h3 e).elim
  · exact h3
  · exact (h2 j i hj hi h3 e.symm).elim
/-- The keys behind j new ones. -/
def ordK (os : List Nat) (j : Nat) : List Nat := os.drop j ++ (List.range j).map (100 + ·)
theorem ordK_len {os : List Nat} {k j : Nat} (hl : os.length = k) (hj : j ≤ k) : (ordK os j).length = k := by
  unfold ordK
  simp
  omega
theorem law_round {P : List Pr} {os : List Nat} {k j : Nat} (hl : os.length = k) (hk : k ≤ 12) (hlt : ∀ u ∈ os, u < k) (h : KeysOf P (ordK os j)) (hj : j < k) : KeysOf (updP (ordM k) (b1 (100 + j)) (b1 3) 0 P) (ordK os (j + 1)) := by
  have hn : 100 + j ∉ ordK os j := by
    unfold ordK
    simp only [List.mem_append, List.mem_map, List.mem_range, not_or]
    refine ⟨fun h => by have := hlt _ (List.mem_of_mem_drop h); omega, ?_⟩
    rintro ⟨x, hx, e⟩
    omega
  have := law_push (N := k) (v := b1 3) h (by omega : 100 + j < 256) hn rfl (ordK_len hl (by omega))
  have e : (ordK os j).tail ++ [100 + j] = ordK os (j + 1) := by
    unfold ordK
    rw [List.tail_append_of_ne_nil (by intro h; have := congrArg List.length h; simp at this; omega), List.tail_drop, List.range_succ, List.map_append, List.append_assoc]
    rfl
  rw [e] at this
  exact this
theorem ordK_out {os : List Nat} {k j y : Nat} (hl : os.length = k) (hk : k ≤ 12) (hlt : ∀ u ∈ os, u < k) (hnd : os.Nodup) {u : Nat} (hu : u ∈ ordK os j) (hy : y < j) (hyk : y < os.length) : u ≠ os[y] := by
  unfold ordK at hu
  rcases List.mem_append.1 hu with hu | hu
  · rintro rfl
    obtain ⟨i, hi, e⟩ := List.mem_iff_getElem.1 hu
    rw [List.getElem_drop] at e
    have := nodup_inj hnd e
    omega
  · obtain ⟨x, -, rfl⟩ := List.mem_map.1 hu
    have := hlt os[y] (List.getElem_mem _)
    omega
end Go.Proofs.Ytalahbmahpgkeaa
