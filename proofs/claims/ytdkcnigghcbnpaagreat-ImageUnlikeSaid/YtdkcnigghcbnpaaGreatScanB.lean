/- What stands under the walks, part B. -/
import Derived.Test.YtdkcnigghcbnpaaGreatScanA
/- scan.above: an iterator over a table's pairs behind a key. -/
namespace Go.Proofs.YtdkcnigghcbnpaaGreat
set_option linter.unusedVariables false
set_option linter.unusedSimpArgs false
open Go.RowKit Go.MapKept

/-- How a pair is told. -/
def encPr (p : Pr) : Array Value := #[.agg #[.string p.1, .string p.2]]
/-- What the iterator of 'above' reads. -/
structure AbRd (tb fb ab bt : Nat) (m : TM) (iv : Value) (E : List En) (F : Nat → Prop) (after : ByteArray) (first : Bool) (W : World) : Prop where
  ct : W.cell? ⟨tb, 0, none⟩ = some (.pointer (some ⟨bt, 0, none⟩))
  lt1 : tb < W.heap.size
  cf : W.cell? ⟨fb, 0, none⟩ = some (.bool first)
  lt2 : fb < W.heap.size
  ca : W.cell? ⟨ab, 0, none⟩ = some (.string after)
  lt3 : ab < W.heap.size
  tbl : Tb W bt m iv E F
def AbD (tb fb ab bt : Nat) (E : List En) (F : Nat → Prop) (b : Nat) : Prop := b = tb ∨ b = fb ∨ b = ab ∨ Tfp bt E F b
section
variable {tb fb ab bt : Nat} {m : TM} {iv : Value} {E : List En} {F : Nat → Prop} {after : ByteArray} {first : Bool} {W W' : World} {S : Nat → Prop}
theorem AbRd.kept (h : AbRd tb fb ab bt m iv E F after first W) (k : Kept S W W') (hS : ∀ b, AbD tb fb ab bt E F b → ¬ S b) : AbRd tb fb ab bt m iv E F after first W' :=
  ⟨(k.cell (p := ⟨tb, 0, none⟩) h.lt1 (hS _ (.inl rfl))).trans h.ct, Nat.lt_of_lt_of_le h.lt1 k.size, (k.cell (p := ⟨fb, 0, none⟩) h.lt2 (hS _ (.inr (.inl rfl)))).trans h.cf, Nat.lt_of_lt_of_le h.lt2 k.size,
    (k.cell (p := ⟨ab, 0, none⟩) h.lt3 (hS _ (.inr (.inr (.inl rfl))))).trans h.ca, Nat.lt_of_lt_of_le h.lt3 k.size, h.tbl.kept k (fun b hb => hS b (.inr (.inr (.inr hb))))⟩
theorem AbRd.dlt (h : AbRd tb fb ab bt m iv E F after first W) : ∀ b, AbD tb fb ab bt E F b → b < W.heap.size := by
  rintro b (rfl | rfl | rfl | hb)
  · exact h.lt1
  · exact h.lt2
  · exact h.lt3
  · exact h.tbl.lt b hb
end

set_option maxRecDepth 100000 in
set_option maxHeartbeats 2000000 in
theorem above1_any (tb fb ab bt : Nat) (m : TM) (iv : Value) (E : List En) (F : Nat → Prop) (after : ByteArray) (first : Bool) :
    IterG Tryz.prog 80 #[.pointer (some ⟨tb, 0, none⟩), .pointer (some ⟨fb, 0, none⟩), .pointer (some ⟨ab, 0, none⟩)] encPr (fun l => l = aboveP after first (kvs E)) (AbD tb fb ab bt E F) (AbRd tb fb ab bt m iv E F after first) := by
  intro l J Jx U W hJ hJx hY h0 hD hlt hR
  have hlen : E.length ≤ 1024 := hR.tbl.allR.small
  have hct := hR.ct
  obtain ⟨Q, hQ⟩ : ∃ Q, pairsP (kvs E) = Q := ⟨_, rfl⟩
  have hQl : Q.length = E.length := by rw [← hQ, pairsP_len, kvs_len]
  obtain ⟨N, hN⟩ : ∃ N, E.length = N := ⟨_, rfl⟩
  have hp := pairs_any hR.tbl
  rw [hQ, hN] at hp
  rw [hN] at hlen hQl
  have HP := Lib.hid hp
  have HY := Lib.hid (And.intro hJ (And.intro hY (And.intro h0 (And.intro hD (And.intro hlt (And.intro hR hQ))))))
  have HQ := Lib.hid hQl
  clear hp hY h0 hD hlt hR hQ hN hQl hJ
  refine callsIn_of_wp Tryz.func80 rfl trivial ?_ rfl
  simp only [Tryz.ntmps80, List.size_toArray, List.length_cons, List.length_nil, Nat.reduceAdd, Nat.reduceSub, Array.replicate_succ, Array.replicate_zero, List.push_toArray, List.append_toArray, List.nil_append, List.cons_append]
  gi_wp2_with fail
  refine callsIn_WR.2 (HP.out.mono ?_)
  rintro e W1 ⟨sv, rfl, hown, hsn, k1⟩
  obtain ⟨a, c, rfl, hg, -, hnc⟩ := own_form hown
  have HO := Lib.hid (And.intro hown (And.intro hsn (And.intro k1 hg)))
  clear hown hsn k1 hct hg
  gi_wp2_with fail
  gi_loopw [10] (fun i wr => ∃ (k : Nat) (U' : Nat → Prop), k ≤ N ∧ i = .int .i64 k ∧ J ((Q.take k).filter fun p => first || keyLt after p.1) U' wr ∧ Grow U U' W wr ∧ AbRd tb fb ab bt m iv E F after first wr ∧ wr.ownsRow 0 65 2 (.slice a N c) N (prV Q) ∧ (∀ b, U' b → ¬ AbD tb fb ab bt E F b) ∧ (∀ b, (Value.slice a N c).ownBlock = some b → ¬ U' b)) (fun i _ => N - (intOf i).toNat)
  case atStart =>
    obtain ⟨hJ, hY, h0, hD, hlt, hR, hQ⟩ := HY.out
    obtain ⟨hown, hsn, k1, hg⟩ := HO.out
    refine ⟨0, U, Nat.zero_le _, rfl, ?_, (Grow.refl hlt).after k1 (fun _ e _ => e.elim), hR.kept k1 (fun _ _ e => e), hown, hD, fun b e hu => ?_⟩
    · exact hJ _ _ _ _ h0 (k1.mono fun _ _ e => e.elim)
    · have := hsn b e
      have := hlt b hu
      omega
  case round =>
    obtain ⟨k, U', hk, rfl, hj, gr, hR', hown, hD', hS'⟩ := hrel
    by_cases hk2 : k < N
    · obtain ⟨g, rfl⟩ := HO.out.2.2.2 (by omega)
      obtain ⟨p, hpk⟩ : ∃ p, Q[k]? = some p := ⟨_, List.getElem?_eq_getElem (by rw [HQ.out]; exact hk2)⟩
      obtain ⟨hp1, hp2⟩ := prV_at hpk
      have hc1 := own_cell hown hp1
      have hc2 := own_cell hown hp2
      have hgl := (hown.lt g rfl).2
      have kA := Kept.one_alloc wr (.cells #[.string p.1, .string p.2] 65)
      have hRA := hR'.kept kA (fun _ _ e => e)
      have hcf := hRA.cf
      have hca := hRA.ca
      have hk1 : Q.take (k + 1) = Q.take k ++ [p] := by
        obtain ⟨hkl, e⟩ := List.getElem?_eq_some_iff.1 hpk
        rw [List.take_succ_eq_append_getElem hkl, e]
      have hsp : Q = Q.take k ++ p :: Q.drop (k + 1) := by
        obtain ⟨hkl, e⟩ := List.getElem?_eq_some_iff.1 hpk
        rw [← e, List.getElem_cons_drop, List.take_append_drop]
      have grA : Grow U U' W (wr.alloc (.cells #[.string p.1, .string p.2] 65)) := gr.after kA (fun _ e _ => e.elim)
      have hjA := HY.out.1 _ _ _ _ hj (kA.mono fun _ _ e => e.elim)
      have hownA := ownsRow_kept hown kA (fun _ _ e => e)
      have hzA : wr.heap.size < (wr.alloc (.cells #[.string p.1, .string p.2] 65)).heap.size := by simp
      have HW := Lib.hid hzA
      have HR := Lib.hid (And.intro hjA (And.intro grA (And.intro hRA (And.intro hownA (And.intro hD' (And.intro hS' (And.intro hk1 hsp)))))))
      clear hj gr hR' hown hD' hS' hpk hk1 hsp grA hjA hownA hRA kA hzA
      by_cases hsel : (first || keyLt after p.1) = true
      · have hY2 : YieldsTo Tryz.prog l #[.agg #[.string p.1, .string p.2]] (wr.alloc (.cells #[.string p.1, .string p.2] 65)) fun e W'' => ∃ U'', Grow U' U'' (wr.alloc (.cells #[.string p.1, .string p.2] 65)) W'' ∧ ((e = .returned (.bool true) ∧ J ((Q.take (k + 1)).filter fun p => first || keyLt after p.1) U'' W'') ∨ (e = .returned (.bool false) ∧ Jx U'' W'')) := by
          obtain ⟨hJ, hY, h0, hD, hlt, hR, hQ⟩ := HY.out
          obtain ⟨hjA, grA, hRA, hownA, hD', hS', hk1, hsp⟩ := HR.out
          have h := hY ((Q.take k).filter fun p => first || keyLt after p.1) p ((Q.drop (k + 1)).filter fun p => first || keyLt after p.1) U' _ ?_ hjA grA hD' hRA
          · rw [hk1, List.filter_append, List.filter_cons_of_pos (by simpa using hsel), List.filter_nil]
            exact h
          · unfold aboveP
            rw [hQ]
            conv => rhs; rw [hsp]
            rw [List.filter_append, List.filter_cons_of_pos (by simpa using hsel)]
        have HC := Lib.hid (And.intro hY2 hsel)
        have hsel2 : first = true ∨ (first = false ∧ Op.bytesLess p.1.toList after.toList = false ∧ (p.1.toList == after.toList) = false) := by
          cases first with
          | true => exact .inl rfl
          | false =>
            have h1 : keyLt after p.1 = true := by simpa using hsel
            refine .inr ⟨rfl, by rw [keyLt_less]; exact keyLt_asymm h1, bytes_ne fun e => ?_⟩
            rw [e, keyLt_irrefl] at h1
            cases h1
        clear hsel
        have HF := Lib.hid hcf
        clear hcf
        rcases hsel2 with hf | ⟨hf, hb1, hb2⟩
        all_goals
          obtain ⟨hY2, hsel⟩ := HC.out
          have hcf := HF.out
          rw [hf] at hcf
          obtain ⟨fn, tmps, assign, body, hy, hR2⟩ := hY2
          clear hY2 hsel
          gi_wp2_with fail
          refine hR2.mono ?_
          rintro e W3 ⟨U3, g3, (⟨rfl, hj3⟩ | ⟨rfl, hjx3⟩)⟩
          · have H3 := Lib.hid (And.intro g3 hj3)
            clear hy hR2 g3 hj3 hc1 hc2 hcf hca
            gi_wp2_with fail
            go_roundw
            case rel =>
              obtain ⟨hjA, grA, hRA, hownA, hD', hS', hk1, hsp⟩ := HR.out
              obtain ⟨g3, hj3⟩ := H3.out
              refine ⟨k + 1, U3, by omega, by go_num, hj3, grA.trans g3, hRA.kept g3.kept (fun b hb hu => hD' b hu hb), ownsRow_kept hownA g3.kept hS', fun b hb hd => ?_, fun b e hb => ?_⟩
              · rcases g3.new b hb with h | h
                · exact hD' b h hd
                · have := hRA.dlt b hd
                  omega
              · rcases g3.new b hb with h | h
                · exact hS' b e h
                · have := (hownA.lt b e).2
                  omega
            case measure => simp [intOf]; omega
          · have H3 := Lib.hid (And.intro g3 hjx3)
            clear hy hR2 g3 hjx3 hc1 hc2 hcf hca
            gi_wp2_with fail
            exact bodyPost_ret (results_none rfl _ _ _) rfl ⟨_, U3, rfl, HR.out.2.1.trans H3.out.1, .inr H3.out.2⟩
      · have hsel' : (first || keyLt after p.1) = false := by simpa using hsel
        have hf : first = false := by
          cases first with
          | true => cases hsel'
          | false => rfl
        have hkl : keyLt after p.1 = false := by
          rw [hf] at hsel'
          exact hsel'
        have hg : (Op.bytesLess p.1.toList after.toList = true ∧ (p.1.toList == after.toList) = false) ∨ (Op.bytesLess p.1.toList after.toList = false ∧ (p.1.toList == after.toList) = true) := by
          by_cases e : p.1 = after
          · right
            rw [e]
            exact ⟨by rw [keyLt_less]; exact keyLt_irrefl _, bytes_self _⟩
          · left
            refine ⟨?_, bytes_ne e⟩
            rw [keyLt_less]
            cases h : keyLt p.1 after with
            | true => rfl
            | false => exact (e (keyLt_total h hkl)).elim
        have HC := Lib.hid hsel'
        rw [hf] at hcf
        clear hsel hsel' hkl
        rcases hg with ⟨hb1, hb2⟩ | ⟨hb1, hb2⟩
        all_goals
          gi_wp2_with fail
          go_roundw
          case rel =>
            obtain ⟨hjA, grA, hRA, hownA, hD', hS', hk1, hsp⟩ := HR.out
            refine ⟨k + 1, U', by omega, by go_num, ?_, grA, hRA, hownA, hD', hS'⟩
            rw [hk1, List.filter_append, List.filter_cons_of_neg (by rw [HC.out]; exact Bool.false_ne_true), List.filter_nil, List.append_nil]
            exact hjA
          case measure => simp [intOf]; omega
    · have hkN : k = N := by omega
      have htk : Q.take k = Q := List.take_of_length_le (by rw [HQ.out]; omega)
      rw [htk] at hj
      have HJ := Lib.hid (And.intro hj gr)
      clear htk hkN hj gr hR' hown hD' hS'
      gi_wp2
      go_end0
      obtain ⟨hJ, hY, h0, hD, hlt, hR, hQ⟩ := HY.out
      have e : Q.filter (fun p => first || keyLt after p.1) = aboveP after first (kvs E) := by unfold aboveP; rw [hQ]
      have hj := HJ.out.1
      rw [e] at hj
      first | exact ⟨_, U', rfl, HJ.out.2, .inl ⟨_, rfl, hj⟩⟩ | exact ⟨⟨_, rfl⟩, U', HJ.out.2, .inl ⟨_, rfl, hj⟩⟩

set_option maxRecDepth 100000 in
theorem above_any {bt : Nat} {m : TM} {iv : Value} {E : List En} {F : Nat → Prop} {W : World} (hT : Tb W bt m iv E F) (after : ByteArray) (first : Bool) :
    Calls Tryz.prog 51 #[.pointer (some ⟨bt, 0, none⟩), .string after, .bool first] W fun e w' => ∃ tb fb ab, e = .returned (.func (.func 80) #[] #[.pointer (some ⟨tb, 0, none⟩), .pointer (some ⟨fb, 0, none⟩), .pointer (some ⟨ab, 0, none⟩)]) ∧
      AbRd tb fb ab bt m iv E F after first w' ∧ Kept (fun _ => False) W w' ∧ W.heap.size ≤ tb ∧ W.heap.size ≤ fb ∧ W.heap.size ≤ ab := by
  refine Calls.mono (R := fun e w' => e = .returned (.func (.func 80) #[] #[.pointer (some ⟨W.heap.size, 0, none⟩), .pointer (some ⟨W.heap.size + 2, 0, none⟩), .pointer (some ⟨W.heap.size + 1, 0, none⟩)]) ∧ w' = ((W.alloc (.cells #[.pointer (some ⟨bt, 0, none⟩)] 24)).alloc (.cells #[.string after] 9)).alloc (.cells #[.bool first] 4)) ?_ ?_
  · clear hT
    go_enter Tryz.func51, Tryz.ntmps51
    go_wp2_with fail
    go_ret
    exact ⟨rfl, rfl⟩
  · rintro e w' ⟨rfl, rfl⟩
    have k1 := Kept.one_alloc W (.cells #[.pointer (some ⟨bt, 0, none⟩)] 24)
    have k2 := Kept.one_alloc (W.alloc (.cells #[.pointer (some ⟨bt, 0, none⟩)] 24)) (.cells #[.string after] 9)
    have k3 := Kept.one_alloc ((W.alloc (.cells #[.pointer (some ⟨bt, 0, none⟩)] 24)).alloc (.cells #[.string after] 9)) (.cells #[.bool first] 4)
    have b1 := ((Box.new W (.pointer (some ⟨bt, 0, none⟩)) 24).kept k2 (fun e => e)).kept k3 (fun e => e)
    have b2 := (Box.new (W.alloc (.cells #[.pointer (some ⟨bt, 0, none⟩)] 24)) (.string after) 9).kept k3 (fun e => e)
    have b3 := Box.new ((W.alloc (.cells #[.pointer (some ⟨bt, 0, none⟩)] 24)).alloc (.cells #[.string after] 9)) (.bool first) 4
    have k := (k1.trans k2 (fun _ _ e => e)).trans k3 (fun _ _ e => e)
    simp only [World.size_alloc] at b2 b3
    exact ⟨W.heap.size, W.heap.size + 2, W.heap.size + 1, rfl, ⟨b1.cell, b1.lt, b3.cell, b3.lt, b2.cell, b2.lt, hT.kept k (fun _ _ e => e)⟩, k, Nat.le_refl _, by omega, by omega⟩
theorem above_enters (args : Array Value) (w : World) : (callFunc 80 args).run Tryz.prog w = .ok (.enter 80 args) w := by
  exact enters_body Tryz.func80 (by kernel_rfl) rfl args w
end Go.Proofs.YtdkcnigghcbnpaaGreat

/- scan.take: the first of what an iterator tells, and whether there is one more. -/
namespace Go.Proofs.YtdkcnigghcbnpaaGreat
set_option linter.unusedVariables false
set_option linter.unusedSimpArgs false
open Go.RowKit Go.MapKept

/-- In the middle of it. -/
def TakeI (ob mb nb : Nat) (n : Int) (pre : List Pr) (U : Nat → Prop) (W : World) : Prop :=
  ∃ o, Box W ob o ∧ W.ownsRow 0 65 2 o pre.length (prV pre) ∧ (∀ b, o.ownBlock = some b → U b ∧ b ≠ ob ∧ b ≠ mb ∧ b ≠ nb) ∧ U ob ∧ U mb ∧ U nb ∧ Box W mb (.bool false) ∧ Box W nb (.int .i64 n) ∧ pre.length ≤ n.toNat
theorem TakeI.kept {ob mb nb : Nat} {n : Int} {pre : List Pr} {U : Nat → Prop} {W W' : World} (h : TakeI ob mb nb n pre U W) (k : Kept (fun b => ¬ U b) W W') : TakeI ob mb nb n pre U W' := by
  obtain ⟨o, h1, h2, h3, h4, h5, h6, h7, h8, h9⟩ := h
  exact ⟨o, h1.kept k (fun e => e h4), ownsRow_kept h2 k (fun b hb e => e (h3 b hb).1), h3, h4, h5, h6, h7.kept k (fun e => e h5), h8.kept k (fun e => e h6), h9⟩
/-- Behind a return out of it. -/
def TakeX (ob mb : Nat) (n : Int) (L : List Pr) (U : Nat → Prop) (W : World) : Prop :=
  ∃ o, Box W ob o ∧ W.ownsRow 0 65 2 o n.toNat (prV (L.take n.toNat)) ∧ (∀ b, o.ownBlock = some b → U b) ∧ U ob ∧ U mb ∧ Box W mb (.bool true) ∧ n.toNat < L.length
theorem TakeX.kept {ob mb : Nat} {n : Int} {L : List Pr} {U : Nat → Prop} {W W' : World} (h : TakeX ob mb n L U W) (k : Kept (fun b => ¬ U b) W W') : TakeX ob mb n L U W' := by
  obtain ⟨o, h1, h2, h3, h4, h5, h6, h7⟩ := h
  exact ⟨o, h1.kept k (fun e => e h4), ownsRow_kept h2 k (fun b hb e => e (h3 b hb)), h3, h4, h5, h6.kept k (fun e => e h5), h7⟩

theorem take_results {tmps : Array Value} {ob mb : Nat} {sv : Value} {b : Bool} {W : World} (h4 : tmps.getD 4 undef = .pointer (some ⟨ob, 0, none⟩)) (h5 : tmps.getD 5 undef = .pointer (some ⟨mb, 0, none⟩)) (ho : Box W ob sv) (hm : Box W mb (.bool b)) :
    (results Tryz.f50 tmps).run Tryz.prog W = .ok (.tuple #[sv, .bool b]) W := by
  have hr : Tryz.f50.results = #[.cell 4 47, .cell 5 4] := rfl
  have hco := ho.cell
  have hcm := hm.cell
  simp only [results, hr]
  simp only [h4, h5, List.mapM_toArray, List.mapM_cons, List.mapM_nil, Sem.run_bind, Sem.run_pure]
  go_simp
set_option maxRecDepth 100000 in
set_option maxHeartbeats 2000000 in
theorem take_any {gf : Nat} {lb : Array Value} {L : List Pr} {D : Nat → Prop} {Rd : World → Prop} (hit : IterG Tryz.prog gf lb encPr (fun l => l = L) D Rd)
    (eg : ∀ args w, (callFunc gf args).run Tryz.prog w = .ok (.enter gf args) w) (W : World) (hRd : Rd W) (hDlt : ∀ b, D b → b < W.heap.size) (hRdk : ∀ W W', Rd W → Kept (fun b => ¬ D b) W W' → Rd W') (n : Int) (hN : L.length ≤ 100000) :
    Calls Tryz.prog 50 #[.func (.func gf) #[] lb, .int .i64 n] W fun e w' => ∃ sv, e = .returned (.tuple #[sv, .bool (batchP n L).2]) ∧ w'.ownsRow 0 65 2 sv (batchP n L).1.length (prV (batchP n L).1) ∧ (∀ b, sv.ownBlock = some b → W.heap.size ≤ b) ∧ Kept (fun _ => False) W w' := by
  refine callsIn_WR (ro := none) (n := 0).1 (callsIn_of_wp_marks Tryz.func50 rfl trivial ?_ rfl)
  simp only [Tryz.ntmps50, List.size_toArray, List.length_cons, List.length_nil, Nat.reduceAdd, Nat.reduceSub, Array.replicate_succ, Array.replicate_zero, List.push_toArray, List.append_toArray, List.nil_append, List.cons_append]
  have HR := Lib.hid hRd
  have HD := Lib.hid hDlt
  clear hRd hDlt
  gi_wp2_with fail
  have k1 := Kept.one_alloc W (.cells #[.int .i64 n] 3)
  have k2 := Kept.one_alloc (W.alloc (.cells #[.int .i64 n] 3)) (.cells #[.slice none 0 0] 47)
  have k3 := Kept.one_alloc ((W.alloc (.cells #[.int .i64 n] 3)).alloc (.cells #[.slice none 0 0] 47)) (.cells #[.bool false] 4)
  have b1 := ((Box.new W (.int .i64 n) 3).kept k2 (fun e => e)).kept k3 (fun e => e)
  have b2 := (Box.new (W.alloc (.cells #[.int .i64 n] 3)) (.slice none 0 0) 47).kept k3 (fun e => e)
  have b3 := Box.new ((W.alloc (.cells #[.int .i64 n] 3)).alloc (.cells #[.slice none 0 0] 47)) (.bool false) 4
  have k := (k1.trans k2 (fun _ _ e => e)).trans k3 (fun _ _ e => e)
  simp only [World.size_alloc] at b2 b3
  obtain ⟨W1, hW1⟩ : ∃ W1, W1 = ((W.alloc (.cells #[.int .i64 n] 3)).alloc (.cells #[.slice none 0 0] 47)).alloc (.cells #[.bool false] 4) := ⟨_, rfl⟩
  obtain ⟨nb, hnb⟩ : ∃ nb, nb = W.heap.size := ⟨_, rfl⟩
  obtain ⟨ob, hob⟩ : ∃ ob, ob = W.heap.size + 1 := ⟨_, rfl⟩
  obtain ⟨mb, hmb⟩ : ∃ mb, mb = W.heap.size + 1 + 1 := ⟨_, rfl⟩
  rw [← hW1] at k b1 b2 b3 ⊢
  rw [← hnb] at b1
  rw [← hob] at b2
  rw [← hmb] at b3
  rw [← hmb, ← hob, ← hnb]
  have HB := Lib.hid (And.intro hnb (And.intro hob (And.intro hmb (And.intro b1 (And.intro b2 (And.intro b3 k))))))
  clear hW1 k1 k2 k3 hnb hob hmb b1 b2 b3 k
  obtain ⟨en, eo, em, b1, b2, b3, k⟩ := HB.out
  refine wpW_rangeG hit rfl eg (fun _ => by rfl) (fun (pre : List Pr) U W' => TakeI ob mb nb n pre U W') (fun c U W' => c = .ret ∧ TakeX ob mb n L U W') (fun b => b = ob ∨ b = mb ∨ b = nb)
    (fun (pre : List Pr) U W W' h k => TakeI.kept h k) (fun _ _ _ _ h k => ⟨h.1, h.2.kept k⟩) ?_ ?_ ?_ (hRdk _ _ HR.out (k.mono fun _ _ e => e.elim)) hRdk
    ⟨_, b2, World.ownsRow_nil _ _ _ _, (fun b e => by cases e), .inl rfl, .inr (.inl rfl), .inr (.inr rfl), b3, b1, Nat.zero_le _⟩ ?_ ?_ ?_
  · rintro b (rfl | rfl | rfl) hd
    all_goals
      have := HD.out _ hd
      omega
  · intro b hd
    exact Nat.lt_of_lt_of_le (HD.out b hd) k.size
  · rintro b (rfl | rfl | rfl)
    · exact b2.lt
    · exact b3.lt
    · exact b1.lt
  · intro l pre x rest U' W3 hitems hi hkw hlt' hD' hRd' hl hlD hlW hlw hUU
    have hpl : pre.length < 100000 ∧ pre.length < L.length := by
      have := congrArg List.length hitems
      simp at this
      omega
    have HLT := Lib.hid hlt'
    have HL := Lib.hid (And.intro hl (And.intro hitems hpl))
    have HI := Lib.hid hi
    clear hlt' hD' hRd' hUU hkw hitems hi hl hpl b1 b2 b3 k en eo em hlD hit hRdk
    simp only [encPr, List.zip_toArray, List.zip_cons_cons, List.zip_nil_left, List.foldl_toArray', List.foldl_cons, List.foldl_nil, List.setIfInBounds_toArray, List.set_cons_succ, List.set_cons_zero]
    gi_wp2_with (rw [Oper.semAt_eq _ _ _ (fun c h => by cases h)]; go_simp; try go_bits)
    have kA := Kept.one_alloc W3 (.cells #[.string x.1, .string x.2] 65)
    refine ⟨kA.block l hlW (fun e => e), ?_⟩
    intro W4 kl zl
    obtain ⟨gx, hgx⟩ : ∃ gx, gx = W3.heap.size := ⟨_, rfl⟩
    have hx0 : W4.cell? ⟨gx, 0, none⟩ = some (.string x.1) := by rw [hgx]; exact (kl.cell (p := ⟨W3.heap.size, 0, none⟩) (by simp) (by show ¬ (W3.heap.size = l); omega)).trans (by simp)
    have hx1 : W4.cell? ⟨gx, 1, none⟩ = some (.string x.2) := by rw [hgx]; exact (kl.cell (p := ⟨W3.heap.size, 1, none⟩) (by simp) (by show ¬ (W3.heap.size = l); omega)).trans (by simp)
    have kl2 : Kept (fun b => b = l) W3 W4 := (kA.mono fun _ _ e => e.elim).trans kl (fun _ _ e => e)
    have hi2 := HI.out.kept (kl2.mono fun b _ e h => by subst e; exact HL.out.1 h)
    obtain ⟨o, ho, hrow, hoo, hU1, hU2, hU3, hmb, hnb, hln⟩ := hi2
    obtain ⟨oa, oc, rfl, hog, -, honc⟩ := own_form hrow
    have hco := ho.cell
    have hfo := ho.frozen
    have hcn := hnb.cell
    have hcm := hmb.cell
    have hfm := hmb.frozen
    rw [← hgx]
    have HK := Lib.hid (And.intro hgx (And.intro kl2 (And.intro ho (And.intro hrow (And.intro hoo (And.intro hU1 (And.intro hU2 (And.intro hU3 (And.intro hmb (And.intro hnb hln))))))))))
    clear kA kl zl hgx kl2 ho hoo hU1 hU2 hU3 hmb hnb hog
    by_cases hge : n ≤ (pre.length : Int)
    · have hne : mb ≠ ob := by obtain ⟨h1, h2, h3, -⟩ := HB.out; omega
      have bm2 := HK.out.2.2.2.2.2.2.2.2.1.kept (Kept.one_set W4 ⟨ob, 0, none⟩ (.slice oa pre.length oc)) (fun e => hne e)
      have hcm2 := bm2.cell
      have hfm2 := bm2.frozen
      clear hrow bm2
      gi_wp2_with (rw [Oper.semAt_eq _ _ _ (fun c h => by cases h)]; go_simp; try go_bits)
      obtain ⟨hgx, kl2, ho, hrow, hoo, hU1, hU2, hU3, hmb, hnb, hln⟩ := HK.out
      have k5 : Kept U' W4 ((W4.setCell ⟨ob, 0, none⟩ (.slice oa pre.length oc)).setCell ⟨mb, 0, none⟩ (.bool true)) :=
        (((Kept.refl U' W4).setCell _ _ (fun _ => hU1))).setCell _ _ (fun _ => hU2)
      obtain ⟨e1, e2, e3, e4⟩ := round_plain kl2 HL.out.1 HLT.out hlW k5
      have hnn : n.toNat = pre.length := by omega
      refine ⟨e1, U', e2, e3, e4, rfl, .slice oa pre.length oc, (ho.set _).kept (Kept.one_set _ _ _) (fun e => hne e.symm), ?_, fun b e => (hoo b e).1, hU1, hU2, (hmb.kept (Kept.one_set _ _ _) (fun e => hne e)).set _, ?_⟩
      · have ht : L.take n.toNat = pre := by rw [← HL.out.2.1, hnn, List.take_left]
        rw [ht, hnn]
        exact ownsRow_kept (ownsRow_kept hrow (Kept.one_set _ _ _) (fun b e h => (hoo b e).2.1 h)) (Kept.one_set _ _ _) (fun b e h => (hoo b e).2.2.1 h)
      · rw [hnn]
        exact HL.out.2.2.2
    · have hrow2 := ownsRow_kept hrow (Kept.one_alloc W4 (.cells #[.string x.1, .string x.2] 65)) (fun _ _ e => e)
      have hpl := HL.out.2.2.1
      clear hrow
      gi_wp2_with (first
        | (gi_at_builtin; refine wpListW_append_mine rfl _ _ entP rfl rfl hrow2 (some ⟨W4.heap.size, 0, none⟩) 1 1 [.string x.1, .string x.2] rfl rfl (holds_block (heap_alloc_new W4 _)) (by simp [Value.oneCell']) (by unfold maxLen; omega) (by omega) ?_
           intro a' c' w' h2 h3 h4
           have bo4 := (HK.out.2.2.1.alloc (.cells #[.string x.1, .string x.2] 65)).kept h3 (fun e => (HK.out.2.2.2.2.1 _ e).2.1 rfl)
           have hco4 := bo4.cell
           have hfo4 := bo4.frozen
           go_frame)
        | (rw [Oper.semAt_eq _ _ _ (fun c h => by cases h)]; go_simp; try go_bits))
      obtain ⟨hgx, kl2, ho, hrow, hoo, hU1, hU2, hU3, hmb, hnb, hln⟩ := HK.out
      obtain ⟨e1, e2, e3, e4, ⟨o5, f1, f2, f3, f4⟩, e6⟩ := coll_round kl2 HL.out.1 HLT.out hlW ho hrow (fun b e => ⟨(hoo b e).1, (hoo b e).2.1⟩) hU1 (Kept.one_alloc W4 (.cells #[.string x.1, .string x.2] 65)) h2 h3 h4
      have hne : mb ≠ ob ∧ nb ≠ ob := by obtain ⟨h1, h2, h3, -⟩ := HB.out; omega
      have hz4 : W4.heap.size < (W4.alloc (.cells #[.string x.1, .string x.2] 65)).heap.size := by simp
      have hlt4 : ∀ b, U' b → b < W4.heap.size := fun b hb => Nat.lt_of_lt_of_le (HLT.out b hb) kl2.size
      have hown5 : ∀ b, (Value.slice a' (pre.length + 1) c').ownBlock = some b → (U' b ∨ (Value.slice a' (pre.length + 1) c').ownBlock = some b) ∧ b ≠ ob ∧ b ≠ mb ∧ b ≠ nb := by
        intro b e
        refine ⟨.inr e, ?_⟩
        rcases h4 with h4 | h4
        · rw [h4] at e
          exact (hoo b e).2
        · rw [h4] at e
          have e := Option.some.inj e
          have := hlt4 ob hU1
          have := hlt4 mb hU2
          have := hlt4 nb hU3
          omega
      have e7 : ∀ c, (c = mb ∨ c = nb) → ¬ (c = ob ∨ (Value.slice oa pre.length oc).ownBlock = some c) := by
        rintro c (rfl | rfl) (e | e)
        · exact hne.1 e
        · exact (hoo _ e).2.2.1 rfl
        · exact hne.2 e
        · exact (hoo _ e).2.2.2 rfl
      have bo5 : Box (w'.setCell ⟨ob, 0, none⟩ (.slice a' (pre.length + 1) c')) ob (.slice a' (pre.length + 1) c') := ((ho.alloc (.cells #[.string x.1, .string x.2] 65)).kept h3 (fun e => (hoo _ e).2.1 rfl)).set _
      refine ⟨e1, _, e2, e3, e4, .slice a' (pre.length + 1) c', bo5, ?_, hown5, .inl hU1, .inl hU2, .inl hU3, hmb.kept e6 (e7 _ (.inl rfl)), hnb.kept e6 (e7 _ (.inr rfl)), ?_⟩
      · have e8 : prV (pre ++ [x]) = prV pre ++ [.string x.1, .string x.2] := by rw [prV_append]; rfl
        rw [e8, List.length_append]
        exact ownsRow_kept h2 (Kept.one_set _ _ _) (fun b e h => (hown5 b e).2.1 h)
      · rw [List.length_append]
        simp
        omega
  · intro items dk U3 W3 hfull hi hkw hRd' hdk hdkn hdkU hUU hUn hUlt
    obtain ⟨o, ho, hrow, hoo, hU1, hU2, hU3, hmb, hnb, hln⟩ := hi
    have hco := ho.cell
    have hfo := ho.frozen
    have hcm := hmb.cell
    have hfm := hmb.frozen
    have hne : mb ≠ ob := by obtain ⟨h1, h2, h3, -⟩ := HB.out; omega
    obtain ⟨oa, oc, rfl, hog, -, honc⟩ := own_form hrow
    have bm2 := hmb.kept (Kept.one_set W3 ⟨ob, 0, none⟩ (.slice oa items.length oc)) (fun e => hne e)
    have hcm2 := bm2.cell
    have hfm2 := bm2.frozen
    have H := Lib.hid (And.intro hfull (And.intro hkw (And.intro hdk (And.intro hdkU (And.intro hUn (And.intro hrow (And.intro hoo (And.intro ho (And.intro hmb (And.intro hU1 (And.intro hU2 hln)))))))))))
    have hdn : W1.heap.size ≤ dk := hdkn
    clear bm2 hfull hkw hdk hdkU hUn hrow hoo ho hmb hU1 hU2 hU3 hln hdkn hUU hUlt hRd' hnb hog b1 b2 b3 k en eo em hit hRdk
    gi_wp2_with fail
    obtain ⟨hfull, hkw, hdk, hdkU, hUn, hrow, hoo, ho, hmb, hU1, hU2, hln⟩ := H.out
    obtain ⟨en, eo, em, b1, b2, b3, k⟩ := HB.out
    have k5 : Kept U3 W3 ((W3.setCell ⟨ob, 0, none⟩ (.slice oa items.length oc)).setCell ⟨mb, 0, none⟩ (.bool false)) :=
      (((Kept.refl U3 W3).setCell _ _ (fun _ => hU1))).setCell _ _ (fun _ => hU2)
    have bo5 := (ho.set (.slice oa items.length oc)).kept (Kept.one_set (W3.setCell ⟨ob, 0, none⟩ (.slice oa items.length oc)) ⟨mb, 0, none⟩ (.bool false)) (fun e => hne e.symm)
    have bm5 := (hmb.kept (Kept.one_set W3 ⟨ob, 0, none⟩ (.slice oa items.length oc)) (fun e => hne e)).set (.bool false)
    have hrow5 := ownsRow_kept (ownsRow_kept hrow (Kept.one_set W3 ⟨ob, 0, none⟩ (.slice oa items.length oc)) (fun b e h => (hoo b e).2.1 h)) (Kept.one_set (W3.setCell ⟨ob, 0, none⟩ (.slice oa items.length oc)) ⟨mb, 0, none⟩ (.bool false)) (fun b e h => (hoo b e).2.2.1 h)
    have hdk5 := (k5.block dk (Array.getElem?_eq_some_iff.1 hdk).1 hdkU).trans hdk
    have hbn : ∀ b, U3 b → W.heap.size ≤ b := fun b hb => by
      have := k.size
      rcases hUn b hb with (rfl | rfl | rfl) | h <;> omega
    have hbt : batchP n L = (items, false) := by
      unfold batchP
      rw [hfull] at hln
      rw [List.take_of_length_le hln, decide_eq_false (by omega), hfull]
    rw [hbt]
    refine leaves_marks [dk] _ (by simp) (fun d hd => by rw [List.mem_singleton.1 hd]; exact hdk5) (fun W' kd => ?_)
    refine ⟨_, take_results rfl rfl (bo5.kept kd (fun e => hdkU (by rw [← List.mem_singleton.1 e]; exact hU1))) (bm5.kept kd (fun e => hdkU (by rw [← List.mem_singleton.1 e]; exact hU2))), _, rfl, ownsRow_kept hrow5 kd (fun b e hd => hdkU (by rw [← List.mem_singleton.1 hd]; exact (hoo b e).1)), fun b e => hbn b (hoo b e).1, ?_⟩
    refine Kept.none ((((k.mono (S' := fun b => W.heap.size ≤ b) (fun _ _ e => e.elim)).trans hkw (fun b _ e => ?_)).trans k5 (fun b _ e => hbn b e)).trans kd (fun b _ e => ?_))
    · rcases e with rfl | rfl | rfl <;> omega
    · rw [List.mem_singleton.1 e]
      have := k.size
      omega
  · rintro c dk U3 W3 ⟨rfl, hx⟩ hkw hRd' hdk hdkn hdkU hUU hUn hUlt
    obtain ⟨o, ho, hrow, hoo, hU1, hU2, hmb, hln⟩ := hx
    have H := Lib.hid (And.intro hkw (And.intro hdk (And.intro hdkU (And.intro hUn (And.intro hrow (And.intro hoo (And.intro ho (And.intro hmb (And.intro hU1 (And.intro hU2 hln))))))))))
    have hdn : W1.heap.size ≤ dk := hdkn
    clear hkw hdk hdkU hUn hrow hoo ho hmb hU1 hU2 hln hdkn hUU hUlt hRd' b1 b2 b3 k en eo em hit hRdk
    gi_wp2_with fail
    obtain ⟨hkw, hdk, hdkU, hUn, hrow, hoo, ho, hmb, hU1, hU2, hln⟩ := H.out
    obtain ⟨en, eo, em, b1, b2, b3, k⟩ := HB.out
    have hbn : ∀ b, U3 b → W.heap.size ≤ b := fun b hb => by
      have := k.size
      rcases hUn b hb with (rfl | rfl | rfl) | h <;> omega
    have hbt : batchP n L = (L.take n.toNat, true) := by
      unfold batchP
      rw [decide_eq_true hln]
    rw [hbt]
    refine leaves_marks [dk] _ (by simp) (fun d hd => by rw [List.mem_singleton.1 hd]; exact hdk) (fun W' kd => ?_)
    refine ⟨_, take_results rfl rfl (ho.kept kd (fun e => hdkU (by rw [← List.mem_singleton.1 e]; exact hU1))) (hmb.kept kd (fun e => hdkU (by rw [← List.mem_singleton.1 e]; exact hU2))), _, rfl, ?_, fun b e => hbn b (hoo b e), ?_⟩
    · have e : (L.take n.toNat).length = n.toNat := by rw [List.length_take]; omega
      show World.ownsRow _ _ _ _ _ (L.take n.toNat).length _
      rw [e]
      exact ownsRow_kept hrow kd (fun b e hd => hdkU (by rw [← List.mem_singleton.1 hd]; exact hoo b e))
    · refine Kept.none (((k.mono (S' := fun b => W.heap.size ≤ b) (fun _ _ e => e.elim)).trans hkw (fun b _ e => ?_)).trans kd (fun b _ e => ?_))
      · rcases e with rfl | rfl | rfl <;> omega
      · rw [List.mem_singleton.1 e]
        have := k.size
        omega
end Go.Proofs.YtdkcnigghcbnpaaGreat

/- scan.Batch, scan.Next. -/
namespace Go.Proofs.YtdkcnigghcbnpaaGreat
set_option linter.unusedVariables false
set_option linter.unusedSimpArgs false
open Go.RowKit Go.MapKept

theorem aboveP_len (after : ByteArray) (first : Bool) (P : List Pr) : (aboveP after first P).length ≤ P.length := by
  unfold aboveP
  have h := List.length_filter_le (fun p : Pr => first || keyLt after p.1) (pairsP P)
  rwa [pairsP_len] at h
section
variable {bt : Nat} {m : TM} {iv : Value} {E : List En} {F : Nat → Prop} {W : World}
set_option maxRecDepth 100000 in
theorem batch_any (hT : Tb W bt m iv E F) (after : ByteArray) (first : Bool) (n : Int) :
    Calls Tryz.prog 23 #[.pointer (some ⟨bt, 0, none⟩), .string after, .bool first, .int .i64 n] W fun e w' => ∃ sv, e = .returned (.tuple #[sv, .bool (batchP n (aboveP after first (kvs E))).2]) ∧
      w'.ownsRow 0 65 2 sv (batchP n (aboveP after first (kvs E))).1.length (prV (batchP n (aboveP after first (kvs E))).1) ∧ (∀ b, sv.ownBlock = some b → W.heap.size ≤ b) ∧ Kept (fun _ => False) W w' := by
  have hlen : (aboveP after first (kvs E)).length ≤ 100000 := by
    have h1 := aboveP_len after first (kvs E)
    have h2 := hT.allR.small
    rw [kvs_len] at h1
    omega
  have ha := above_any hT after first
  have HT := Lib.hid (And.intro hT hlen)
  obtain ⟨L, hL⟩ : ∃ L, aboveP after first (kvs E) = L := ⟨_, rfl⟩
  have HL := Lib.hid hL
  rw [hL]
  clear hT hL hlen
  go_enter Tryz.func23, Tryz.ntmps23
  go_wp2_with fail
  refine ha.mono ?_
  rintro e W1 ⟨tb, fb, ab, rfl, hrd, k1, h1, h2, h3⟩
  have htk := take_any (above1_any tb fb ab bt m iv E F after first) above_enters W1 hrd hrd.dlt (fun W W' h k => h.kept k (fun b hb e => e hb)) n HT.out.2
  rw [HL.out] at htk
  have H1 := Lib.hid k1
  clear ha hrd k1 h1 h2 h3
  go_wp2_with fail
  refine htk.mono ?_
  rintro e W2 ⟨sv, rfl, hrow, hn, k2⟩
  have H2 := Lib.hid (And.intro hrow (And.intro hn k2))
  clear htk hrow hn k2
  go_wp2_with fail
  go_ret2
  exact ⟨sv, rfl, H2.out.1, fun b e => Nat.le_trans H1.out.size (H2.out.2.1 b e), H1.out.trans H2.out.2.2 (fun _ _ e => e)⟩

/-- The first of some pairs: its key. -/
def nextP : List Pr → ByteArray × Bool
  | [] => (⟨#[]⟩, false)
  | p :: _ => (p.1, true)
set_option maxRecDepth 100000 in
theorem next_any (hT : Tb W bt m iv E F) (after : ByteArray) (first : Bool) :
    Calls Tryz.prog 25 #[.pointer (some ⟨bt, 0, none⟩), .string after, .bool first] W fun e w' => e = .returned (.tuple #[.string (nextP (aboveP after first (kvs E))).1, .bool (nextP (aboveP after first (kvs E))).2]) ∧ Kept (fun _ => False) W w' := by
  have hlen : (aboveP after first (kvs E)).length ≤ 100000 := by
    have h1 := aboveP_len after first (kvs E)
    have h2 := hT.allR.small
    rw [kvs_len] at h1
    omega
  have ha := above_any hT after first
  have HT := Lib.hid (And.intro hT hlen)
  obtain ⟨L, hL⟩ : ∃ L, aboveP after first (kvs E) = L := ⟨_, rfl⟩
  have HL := Lib.hid hL
  rw [hL]
  clear hT hL hlen
  go_enter Tryz.func25, Tryz.ntmps25
  go_wp2_with fail
  refine ha.mono ?_
  rintro e W1 ⟨tb, fb, ab, rfl, hrd, k1, h1, h2, h3⟩
  have htk := take_any (above1_any tb fb ab bt m iv E F after first) above_enters W1 hrd hrd.dlt (fun W W' h k => h.kept k (fun b hb e => e hb)) 1 HT.out.2
  rw [HL.out] at htk
  have H1 := Lib.hid k1
  clear ha hrd k1 h1 h2 h3
  go_wp2_with fail
  refine htk.mono ?_
  rintro e W2 ⟨sv, rfl, hrow, hn, k2⟩
  have k12 := H1.out.trans k2 (fun _ _ e => e)
  have H2 := Lib.hid k12
  clear htk hn k2 k12
  cases L with
  | nil =>
    obtain ⟨a, c, rfl, -, -, -⟩ := own_form hrow
    clear hrow
    simp only [batchP, List.take_nil, List.length_nil]
    go_wp2_with fail
    go_ret2
    exact ⟨rfl, H2.out⟩
  | cons p L =>
    have e1 : (batchP 1 (p :: L)).1 = [p] := rfl
    rw [e1] at hrow
    obtain ⟨a, c, rfl, hg, -, -⟩ := own_form hrow
    obtain ⟨g, rfl⟩ := hg (by simp)
    have hc := own_cell hrow (j := 0) (u := .string p.1) rfl
    clear hrow hg e1
    generalize (batchP 1 (p :: L)).2 = b2
    simp only [List.length_cons, List.length_nil, Nat.zero_add]
    go_wp2_with fail
    go_ret2
    exact ⟨rfl, H2.out⟩
end
end Go.Proofs.YtdkcnigghcbnpaaGreat
