/- maps.Values of a hash, ranged over: each entry once, in some order. -/
import Derived.Test.YtdkcnigghcbnpaaGreatGenD
import Derived.Test.YtdkcnigghcbnpaaGreatTblA
namespace Go.Proofs.YtdkcnigghcbnpaaGreat
set_option linter.unusedVariables false
set_option linter.unusedSimpArgs false
open Go.RowKit Go.MapKept

/-- What an iterator over a map's values reads. -/
def MapRd (bx hm : Nat) (xs : List (Ent ByteArray Unit)) (W : World) : Prop := W.cell? ⟨bx, 0, none⟩ = some (.map (some hm)) ∧ bx < W.heap.size ∧ Tab strK W hm xs
theorem MapRd.kept {bx hm : Nat} {xs : List (Ent ByteArray Unit)} {S : Nat → Prop} {W W' : World} (h : MapRd bx hm xs W) (k : Kept S W W') (h1 : ¬ S bx) (h2 : ¬ S hm) : MapRd bx hm xs W' :=
  ⟨(k.cell h.2.1 h1).trans h.1, Nat.lt_of_lt_of_le h.2.1 k.size, h.2.2.kept k h2⟩

set_option maxRecDepth 100000 in
set_option maxHeartbeats 1000000 in
theorem mvals1 (bx hm : Nat) (xs : List (Ent ByteArray Unit)) :
    IterG Tryz.prog 166 #[.pointer (some ⟨bx, 0, none⟩)] (fun x : Ent ByteArray Unit => #[.pointer (some ⟨x.b, 0, none⟩)]) (fun l => l.Perm xs) (fun b => b = bx ∨ b = hm) (MapRd bx hm xs) := by
  intro l J Jx U W hJ hJx hY h0 hD hlt hR
  have hbx := hR.1
  obtain ⟨es, clock, hb, hp, hst⟩ := hR.2.2
  obtain ⟨ys, hys, hkv⟩ := perm_lift (fun e : MapEntry => (e.key, e.val)) (fun x : Ent ByteArray Unit => (strK.enc x.k, ptr (x.b, 0))) es.toList xs hp
  have hlen : es.toList.length = ys.length := by simpa using congrArg List.length hkv
  obtain ⟨Z, hZ⟩ : ∃ Z, Z = es.toList.zip ys := ⟨_, rfl⟩
  have hZ2 : Z.map (·.2) = ys := by rw [hZ]; exact List.map_snd_zip (by omega)
  have hZn : (Z.map (·.1.born)).Nodup := by
    have h1 : Z.map (·.1) = es.toList := by rw [hZ]; exact List.map_fst_zip (by omega)
    have h2 := ((stamped_iff es clock).1 hst).2.1
    rw [← h1, List.map_map] at h2
    exact h2
  have hZv : ∀ p ∈ Z, p.1.val = ptr (p.2.b, 0) := by
    intro p hp
    rw [hZ] at hp
    obtain ⟨i, hi, e⟩ := List.mem_iff_getElem.1 hp
    have h1 : (es.toList.map fun e => (e.key, e.val))[i]? = (ys.map fun x => (strK.enc x.k, ptr (x.b, 0)))[i]? := by rw [hkv]
    rw [List.length_zip] at hi
    rw [List.getElem_zip] at e
    rw [List.getElem?_map, List.getElem?_map, List.getElem?_eq_getElem (by omega), List.getElem?_eq_getElem (by omega)] at h1
    simp only [Option.map_some, Option.some.injEq, Prod.mk.injEq] at h1
    rw [← e]
    exact h1.2
  have hleft : ∀ seen, (leftOf es seen).toList = (leftP Z seen).map (·.1) := fun seen => by rw [hZ]; exact leftP_fst hlen seen
  have hst0 : (leftP Z #[]).map (·.2) = ys := by
    have : leftP Z #[] = Z := by unfold leftP; exact List.filter_eq_self.2 (by simp)
    rw [this, hZ2]
  obtain ⟨W1, hrange, hmi, k1⟩ := MapIt.start (P := Tryz.prog) W Tryz.underlying162 hb
  obtain ⟨r, hr⟩ : ∃ r, r = W.heap.size := ⟨_, rfl⟩
  rw [← hr] at hrange hmi
  have hl1 := hmi.lt
  have ATS := Lib.hid (show J [] U W1 ∧ Grow U U W W1 ∧ MapIt W1 r hm es clock #[] ∧ ((leftP Z #[]).map (·.2)).Perm xs ∧ ¬ U r from
    ⟨hJ _ _ _ _ h0 (k1.mono fun _ _ e => e.elim), ⟨k1.mono fun _ _ e => e.elim, fun _ h => h, fun _ h => .inl h, fun b hb => Nat.lt_of_lt_of_le (hlt b hb) k1.size⟩, hmi, by rw [hst0]; exact hys, fun hu => by have := hlt r hu; omega⟩)
  have HH := Lib.hid (And.intro hZn (And.intro hZv (And.intro hleft hst)))
  have HR := Lib.hid hR
  have HD := Lib.hid hD
  have HRR := Lib.hid hr
  refine callsIn_of_wp Tryz.func166 rfl trivial ?_ rfl
  simp only [Tryz.ntmps166, List.size_toArray, List.length_cons, List.length_nil, Nat.reduceAdd, Nat.reduceSub, Array.replicate_succ, Array.replicate_zero, List.push_toArray, List.append_toArray, List.nil_append, List.cons_append]
  clear hZ2 hZn hZv hleft hst0 hkv hlen hys hp hst hb hmi k1 hl1 h0 hlt hR hD hr hZ
  gi_wp2
  gi_loopw [4] (fun _ wr => ∃ (pre : List (Ent ByteArray Unit)) (U' : Nat → Prop) (seen : Array Nat), J pre U' wr ∧ Grow U U' W wr ∧ MapIt wr r hm es clock seen ∧ (pre ++ (leftP Z seen).map (·.2)).Perm xs ∧ ¬ U' r ∧ (∀ b, U' b → ¬ (b = bx ∨ b = hm))) (fun _ wr => wr.rangeLeft hm r)
  case atStart => exact ⟨[], U, #[], ATS.out.1, ATS.out.2.1, ATS.out.2.2.1, ATS.out.2.2.2.1, ATS.out.2.2.2.2, HD.out⟩
  case round =>
    obtain ⟨pre, U', seen, hj, gr, hmi, hpm, hur, hD'⟩ := hrel
    clear ATS hrange
    obtain ⟨hZn, hZv, hleft, hst⟩ := HH.out
    have REL := Lib.hid (And.intro hj (And.intro gr (And.intro hmi (And.intro hpm (And.intro hur hD')))))
    have hRd := HR.out.kept gr.kept (fun h => HD.out _ h (.inl rfl)) (fun h => HD.out _ h (.inr rfl))
    have hms := hmi.left
    rcases hmi.next (P := Tryz.prog) hst 0 with ⟨hx, hrun⟩ | ⟨e, he, W2, hrun, hmi2, k2, z2, hen⟩
    · have hnil : leftP Z seen = [] := by
        have h1 : (leftOf es seen).toList.length = 0 := by simpa using hx
        rw [hleft, List.length_map] at h1
        exact List.eq_nil_of_length_eq_zero h1
      rw [hnil] at hpm
      have H := Lib.hid (show pre.Perm xs from by simpa using hpm)
      clear hj gr hmi hpm hur hD' hZn hZv hleft hst hRd hx hnil hms
      gi_wp2
      go_end0
      first | exact ⟨_, U', rfl, REL.out.2.1, .inl ⟨pre, H.out, REL.out.1⟩⟩ | exact ⟨⟨_, rfl⟩, U', REL.out.2.1, .inl ⟨pre, H.out, REL.out.1⟩⟩
    · rw [hleft] at he
      obtain ⟨A, y, B, hA, hB, hmem⟩ := leftP_step hZn he
      have hval : e.val = .pointer (some ⟨y.b, 0, none⟩) := hZv _ hmem
      rw [hval] at hrun hen
      have hj2 : J pre U' W2 := hJ _ _ _ _ hj (k2.mono fun b _ e => by rw [e]; exact hur)
      have hrW : W.heap.size ≤ r := by have := HRR.out; omega
      have gr2 : Grow U U' W W2 := gr.after k2 (fun b e hb => by omega)
      have hRd2 := HR.out.kept gr2.kept (fun h => HD.out _ h (.inl rfl)) (fun h => HD.out _ h (.inr rfl))
      have hfull : (pre ++ y :: (A ++ B).map (·.2)).Perm xs := by
        rw [hA] at hpm
        simp only [List.map_append, List.map_cons] at hpm ⊢
        exact (List.Perm.append_left pre List.perm_middle.symm).trans hpm
      have hnew : ((pre ++ [y]) ++ (leftP Z (seen.push e.born)).map (·.2)).Perm xs := by
        rw [hB, List.append_assoc]
        exact hfull
      have hms2 : (leftOf es (seen.push e.born)).size < (leftOf es seen).size := by
        have h1 : (leftOf es (seen.push e.born)).toList.length = (A ++ B).length := by rw [hleft, hB, List.length_map]
        have h2 : (leftOf es seen).toList.length = (A ++ (e, y) :: B).length := by rw [hleft, hA, List.length_map]
        simp at h1 h2
        omega
      obtain ⟨fn, tmps, assign, body, hy, hR2⟩ := hY pre y _ U' W2 hfull hj2 gr2 hD' hRd2
      have HN := Lib.hid (And.intro hnew (And.intro hms2 (And.intro hms (And.intro hmi2 (And.intro gr2 (And.intro hur hD'))))))
      clear hj gr hmi hpm hur hD' hZn hZv hleft hst hRd hms hnew hms2 hfull hmi2 gr2 hj2 hRd2 hA hB hmem hval he k2 z2 hrW
      generalize e.key = ky at hrun hen
      gi_wp2
      refine hR2.mono ?_
      rintro ed W3 ⟨U3, g3, (⟨rfl, hj3⟩ | ⟨rfl, hjx3⟩)⟩
      · obtain ⟨hnew, hms2, hms, hmi2, gr2, hur, hD'⟩ := HN.out
        have hmi3 := hmi2.kept g3.kept hur (fun h => hD' _ h (.inr rfl))
        have gr3 := gr2.trans g3
        have hur3 : ¬ U3 r := fun h => by
          rcases g3.new r h with h | h
          · exact hur h
          · have := hmi2.lt.1; omega
        have hD3 : ∀ b, U3 b → ¬ (b = bx ∨ b = hm) := by
          intro b hb hd
          rcases g3.new b hb with h | h
          · exact hD' b h hd
          · have h1 := hmi2.lt
            have h2 := HR.out.2.1
            have h3 := gr2.kept.size
            rcases hd with rfl | rfl
            · omega
            · omega
        have H3 := Lib.hid (And.intro hj3 (And.intro gr3 (And.intro hmi3 (And.intro hnew (And.intro hur3 hD3)))))
        have HM := Lib.hid (show W3.rangeLeft hm r < wr.rangeLeft hm r from by rw [hms, hmi3.left]; exact hms2)
        clear hy hR2 g3 hj3 gr3 hmi3 hur3 hD3 hnew hms2 hms hmi2 gr2 hur hD' hrun hen HN
        gi_wp2
        go_roundw
        case rel => exact ⟨pre ++ [y], U3, _, H3.out.1, H3.out.2.1, H3.out.2.2.1, H3.out.2.2.2.1, H3.out.2.2.2.2.1, H3.out.2.2.2.2.2⟩
        case measure => exact HM.out
      · have gr3 := HN.out.2.2.2.2.1.trans g3
        clear hy hR2 g3 hrun hen
        gi_wp2
        exact bodyPost_ret (results_none rfl _ _ _) rfl ⟨_, U3, rfl, gr3, .inr hjx3⟩

set_option maxRecDepth 100000 in
theorem mvals_any (hm : Nat) (w : World) :
    Calls Tryz.prog 161 #[.map (some hm)] w fun e w' => ∃ bx, e = .returned (.func (.func 166) #[] #[.pointer (some ⟨bx, 0, none⟩)]) ∧ Box w' bx (.map (some hm)) ∧ Kept (fun _ => False) w w' ∧ w.heap.size ≤ bx := by
  refine Calls.mono (R := fun e w' => e = .returned (.func (.func 166) #[] #[.pointer (some ⟨w.heap.size, 0, none⟩)]) ∧ w' = w.alloc (.cells #[.map (some hm)] 162)) ?_ ?_
  · go_enter Tryz.func161, Tryz.ntmps161
    go_wp2_with fail
    go_ret
    exact ⟨rfl, rfl⟩
  · rintro e w' ⟨rfl, rfl⟩
    exact ⟨_, rfl, Box.new w _ _, Kept.one_alloc w _, Nat.le_refl _⟩
theorem mvals_enters (args : Array Value) (w : World) : (callFunc 166 args).run Tryz.prog w = .ok (.enter 166 args) w := by
  exact enters_body Tryz.func166 (by kernel_rfl) rfl args w
end Go.Proofs.YtdkcnigghcbnpaaGreat
