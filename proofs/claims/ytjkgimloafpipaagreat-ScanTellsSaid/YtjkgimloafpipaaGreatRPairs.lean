/- The document's pairs of a table, rising: insertion by insertion. -/
import Derived.Test.YtjkgimloafpipaaGreatRefScan
import Derived.Test.YtjkgimloafpipaaGreatScanD
import Derived.Test.YtjkgimloafpipaaGreatHeld
import Derived.Test.YtjkgimloafpipaaGreatWorlds
namespace Go.Proofs.YtjkgimloafpipaaGreat
set_option linter.unusedVariables false
set_option linter.unusedSimpArgs false
open Go.RowKit Go.MapKept

theorem rpairE : Elem Tryz.prog 63 69 (.agg #[.string ⟨#[]⟩, .string ⟨#[]⟩]) 2 32 := ⟨Tryz.underlying63, by kernel_rfl, rfl, by omega⟩
theorem prV_one (P : List Pr) : ∀ u ∈ prV P, u.oneCell' = true := by
  intro u hu
  unfold prV at hu
  obtain ⟨p, -, hp⟩ := List.mem_flatMap.1 hu
  simp only [encP, List.mem_cons, List.not_mem_nil, or_false] at hp
  rcases hp with rfl | rfl <;> rfl
theorem rises_splitP {E : List Pr} {k : ByteArray} (h : Rises keyP E) (hk : ∀ x ∈ E, x.1 ≠ k) : ∃ A B, E = A ++ B ∧ (∀ x ∈ A, keyLt x.1 k = true) ∧ (∀ x ∈ B, keyLt k x.1 = true) := by
  induction E with
  | nil => exact ⟨[], [], rfl, fun _ h => (by cases h), fun _ h => (by cases h)⟩
  | cons a E ih =>
    obtain ⟨h1, h2⟩ := List.pairwise_cons.1 h
    cases ha : keyLt a.1 k with
    | true =>
      obtain ⟨A, B, rfl, hA, hB⟩ := ih h2 (fun x hx => hk x (.tail _ hx))
      refine ⟨a :: A, B, rfl, fun x hx => ?_, hB⟩
      rcases List.mem_cons.1 hx with rfl | hx
      · exact ha
      · exact hA x hx
    | false =>
      refine ⟨[], a :: E, rfl, fun _ h => (by cases h), fun x hx => ?_⟩
      have hka : keyLt k a.1 = true := by
        cases hc : keyLt k a.1 with
        | true => rfl
        | false => exact (hk a (.head _) (keyLt_total ha hc)).elim
      rcases List.mem_cons.1 hx with rfl | hx
      · exact hka
      · exact keyLt_trans hka (h1 x hx)
theorem insK_at {A B : List Pr} {q : Pr} (hA : ∀ x ∈ A, keyLt x.1 q.1 = true) (hB : ∀ x ∈ B, keyLt q.1 x.1 = true) : insK keyP q (A ++ B) = A ++ q :: B := by
  refine insK_split (key := keyP) hA (fun p hp => ?_)
  cases B with
  | nil => cases hp
  | cons b B =>
    have hp : b = p := Option.some.inj hp
    rw [← hp]
    exact keyLt_asymm (hB b (.head _))
theorem le_no11 {a b : ByteArray} (h : keyLt a b = true) : Op.bytesLess b.toList a.toList = false ∧ (b.toList == a.toList) = false := by
  refine ⟨by rw [keyLt_less]; exact keyLt_asymm h, ?_⟩
  rw [beq_eq_false_iff_ne]
  intro e
  rw [Lib.toList_data, Lib.toList_data] at e
  rw [byteArray_ext e, keyLt_irrefl] at h
  cases h
theorem heap_name11 {w wS : World} {o : Obj} (hS : wS.heap[w.heap.size]? = some o) : ∃ sb, w.heap.size = sb ∧ wS.heap[sb]? = some o := ⟨_, rfl, hS⟩
/-- A block of two texts. -/
structure Two11 (w : World) (b : Nat) (u v : Value) : Prop where
  row : RowAt w b 2
  c0 : w.cell? ⟨b, 0, none⟩ = some u
  c1 : w.cell? ⟨b, 1, none⟩ = some v
theorem two_heap {w : World} {b : Nat} {u v : Value} {t : TypeId} (h : w.heap[b]? = some (.cells #[u, v] t (0, 0))) : Two11 w b u v := by
  refine ⟨⟨_, _, h, rfl⟩, ?_, ?_⟩
  · simp only [World.cell?, h]; rfl
  · simp only [World.cell?, h]; rfl
theorem hold_two {w w' : World} {e0 y0 e e' : Nat} {u v : Value} {n c : Nat} (he : w.heap[e0]? = some (.cells #[] e (0, 0))) (hy : w.heap[y0]? = some (.cells #[u, v] e' (0, 0))) (k : Kept (fun b => (Value.slice (some ⟨e0, 0, none⟩) n c).ownBlock = some b) w w') : Holds9 w' (some ⟨y0, 0, none⟩) [u, v] := by
  have hne : e0 ≠ y0 := by
    rintro rfl
    rw [he] at hy
    cases hy
  exact holds_block ((k.block y0 (Array.getElem?_eq_some_iff.1 hy).1 (fun e => hne (by have e : some e0 = some y0 := e; exact Option.some.inj e))).trans hy)
/-- Parts of a row of pairs, as sources. -/
theorem pair_holds {w2 : World} {ty : TypeId} {a : Option Addr} {i c j : Nat} {A B : List Pr} (h : w2.ownsRow 0 ty 2 (.slice a i c) i (prV (A ++ B))) (hi : A.length = j) (hn : j + B.length = i) : ∀ w', Kept (fun _ => False) w2 w' → Holds9 w' a (prV A) ∧ Holds9 w' (if c = j then a else Option.map (fun x => x.add (j * 2)) a) (prV B) := by
  intro w' k
  have h' := ownsRow_kept h k (fun _ _ e => e)
  obtain ⟨a', c', e, hg, -, hc⟩ := own_form h'
  cases e
  have hpA : (prV A).length = j * 2 := by rw [prV_len, hi]
  refine ⟨fun t u ht => ?_, ?_⟩
  · have hlt := (List.getElem?_eq_some_iff.1 ht).1
    obtain ⟨g, rfl⟩ := hg (by omega)
    refine ⟨_, rfl, ?_⟩
    rw [add_zero_off]
    exact own_cell h' (by rw [prV_append, List.getElem?_append_left hlt]; exact ht)
  · by_cases hB : B = []
    · subst hB
      exact holds_nil rfl
    · have hB0 : 0 < B.length := List.length_pos_iff.2 hB
      rw [if_neg (by omega)]
      obtain ⟨g, rfl⟩ := hg (by omega)
      have h3 := holds_part h' (j * 2) (prV B) (fun t u ht => by
        rw [prV_append, List.getElem?_append_right (by omega), hpA, Nat.add_sub_cancel_left]
        exact ht)
      rw [Option.map_some, add_off, Nat.zero_add]
      exact h3
theorem own_len11 {a : Option Addr} {n n' c b : Nat} (h : (Value.slice a n c).ownBlock = some b) : (Value.slice a n' c).ownBlock = some b := by
  cases a with
  | none => exact h
  | some a => exact h
theorem pair_holds1 {w2 : World} {ty : TypeId} {g i c j : Nat} {A B : List Pr} (h : w2.ownsRow 0 ty 2 (.slice (some ⟨g, 0, none⟩) i c) i (prV (A ++ B))) (hi : A.length = j) (hn : j + B.length = i) : ∀ w', Kept (fun _ => False) w2 w' → Holds9 w' (if c = j then some ⟨g, 0, none⟩ else some ⟨g, j * 2, none⟩) (prV B) := by
  intro w' k
  have h2 := (pair_holds h hi hn w' k).2
  rw [Option.map_some, add_off, Nat.zero_add] at h2
  exact h2
theorem pair_holds0 {w2 : World} {ty : TypeId} {a : Option Addr} {i c : Nat} {A B : List Pr} (h : w2.ownsRow 0 ty 2 (.slice a i c) i (prV (A ++ B))) (hA : A.length = 0) : ∀ w', Kept (fun _ => False) w2 w' → Holds9 w' a (prV B) := by
  intro w' k
  have e : A = [] := List.eq_nil_of_length_eq_zero hA
  subst e
  exact own_holds (ownsRow_kept h k (fun _ _ e => e))
set_option maxRecDepth 100000 in
set_option maxHeartbeats 4000000 in
theorem rpairs_any {w : World} {bt : Nat} {m : TM} {lv : Value} {E : List En} (h : RT w bt m lv E) : Calls Tryz.prog 29 #[.pointer (some ⟨bt, 0, none⟩)] w fun e w' => ∃ sv, e = .returned sv ∧ w'.ownsRow 0 69 2 sv (pairsP (kvs E)).length (prV (pairsP (kvs E))) ∧ (∀ b, sv.ownBlock = some b → w.heap.size ≤ b) ∧ Kept (fun _ => False) w w' := by
  have hl := h.mx
  have hnd : ((kvs E).map (·.1)).Nodup := by unfold kvs; rw [List.map_map]; exact h.keys
  have H := Lib.hid (And.intro h hnd)
  obtain ⟨w0, hw0⟩ : ∃ w0, w.alloc (.cells #[] 69) = w0 := ⟨_, rfl⟩
  obtain ⟨eb, heb⟩ : ∃ eb, w.heap.size = eb := ⟨_, rfl⟩
  have kw0 : Kept (fun _ => False) w w0 := by rw [← hw0]; exact Kept.one_alloc _ _
  have own0 : w0.ownsRow 0 69 2 (.slice (some ⟨eb, 0, none⟩) 0 0) 0 [] := by rw [← hw0, ← heb]; exact own_empty_at (heap_alloc_new w _)
  have RA := Lib.hid (rall_any (h.keep kw0))
  obtain ⟨n, hn⟩ : ∃ n, E.length = n := ⟨_, rfl⟩
  have HN := Lib.hid hn
  rw [hn] at hl RA
  have HW0 := Lib.hid (And.intro hw0 heb)
  have O0 := Lib.hid (And.intro own0 kw0)
  clear h hn hnd kw0 own0 hw0 heb
  go_enter Tryz.func29, Tryz.ntmps29
  go_wp2_with fail
  rw [HW0.out.2, HW0.out.1]
  refine RA.out.mono ?_
  rintro e w1 ⟨a, c, rfl, ho, hf, k1⟩
  have O1 := Lib.hid (And.intro ho (And.intro hf k1))
  have OS := Lib.hid (ownsRow_kept O0.out.1 k1 (fun _ _ e => e))
  clear ho hf k1 RA
  go_wp2_with fail
  go_loopw [3, 5, 6, 7] (fun s3 s5 s6 s7 wr => ∃ (i : Nat) (sa : Option Addr) (sc : Nat), i ≤ n ∧ s5 = .int .i64 (i : Int) ∧ s3 = .slice sa i sc ∧ wr.ownsRow 0 69 2 (.slice sa i sc) i (prV (sortK keyP ((kvs E).take i))) ∧ (∀ b, (Value.slice sa i sc).ownBlock = some b → w.heap.size ≤ b) ∧ Kept (fun _ => False) w1 wr) (fun _ s5 _ _ _ => n - (intOf s5).toNat)
  case atStart => exact ⟨0, _, _, Nat.zero_le _, rfl, rfl, OS.out, fun b e => by have e : some eb = some b := e; have e := Option.some.inj e; have := HW0.out.2; omega, Kept.refl _ _⟩
  case round =>
    obtain ⟨i, sa, sc, hi, rfl, rfl, hrow, hfr, hkr⟩ := hrel
    by_cases hlt : i < n
    · obtain ⟨x, hx⟩ : ∃ x, E[i]? = some x := ⟨_, List.getElem?_eq_getElem (by rw [HN.out]; exact hlt)⟩
      have hq : (kvs E)[i]? = some (x.key, x.data) := by unfold kvs; rw [List.getElem?_map, hx]; rfl
      have hnd1 : (((kvs E).take i).map (·.1)).Nodup := by
        rw [List.map_take]
        exact H.out.2.sublist (List.take_sublist _ _)
      have hne : ∀ y ∈ sortK keyP ((kvs E).take i), y.1 ≠ x.key := by
        intro y hy e
        have hy := (sortK_perm ((kvs E).take i)).mem_iff.1 hy
        have h2 := H.out.2
        have h3 : kvs E = (kvs E).take i ++ (x.key, x.data) :: (kvs E).drop (i + 1) := by
          obtain ⟨h4, h5⟩ := List.getElem?_eq_some_iff.1 hq
          rw [← h5, List.getElem_cons_drop, List.take_append_drop]
        rw [h3, List.map_append, List.map_cons] at h2
        exact (List.nodup_append.1 h2).2.2 y.1 (List.mem_map.2 ⟨y, hy, rfl⟩) x.key (by simp) e
      obtain ⟨A, B, hAB, hA, hB⟩ := rises_splitP (sortK_rises hnd1) hne
      have hnext : sortK keyP ((kvs E).take (i + 1)) = A ++ (x.key, x.data) :: B := by
        rw [take_snoc' hq, sortK_snoc, hAB]
        exact insK_at hA hB
      have hABl : A.length + B.length = i := by
        rw [← List.length_append, ← hAB, (sortK_perm _).length_eq, List.length_take, kvs_len, HN.out]
        omega
      rw [hAB] at hrow
      have hxm := List.mem_of_getElem? hx
      have kwr := (O0.out.2.trans O1.out.2.2 (fun _ _ e => e)).trans hkr (fun _ _ e => e)
      have hE := (H.out.1.keep kwr).en x hxm
      have hrowE := ownsRow_kept O1.out.1 hkr (fun _ _ e => e)
      obtain ⟨a', c', e, hg, -⟩ := own_form hrowE
      cases e
      obtain ⟨g, rfl⟩ := hg (by omega)
      obtain ⟨j, hj⟩ : ∃ j, A.length = j := ⟨_, rfl⟩
      obtain ⟨nb, hnb⟩ : ∃ nb, B.length = nb := ⟨_, rfl⟩
      rw [hj, hnb] at hABl
      have hcE : i ≤ sc := by obtain ⟨a'', c'', e, -, -, h⟩ := own_form hrow; cases e; exact h
      have R := Lib.hid (And.intro hrow (And.intro hfr (And.intro hkr hnext)))
      have AB := Lib.hid (And.intro (And.intro hA hB) (And.intro hj hnb))
      have EX := Lib.hid (show ∀ w', Kept (fun _ => False) wr w' → w'.cell? ⟨g, i, none⟩ = some (.pointer (some ⟨x.b, 0, none⟩)) ∧ w'.cell? ⟨x.b, 0, none⟩ = some (.string x.key) ∧ w'.cell? ⟨x.b, 1, none⟩ = some (.slice (some ⟨x.d, 0, none⟩) x.data.size x.c) ∧ (convert 23 9 (.slice (some ⟨x.d, 0, none⟩) x.data.size x.c)).run Tryz.prog w' = .ok (.string x.data) w' from fun w' kk =>
        ⟨own_cell (ownsRow_kept hrowE kk (fun _ _ e => e)) (by unfold ptrs; rw [List.getElem?_map, hx]; rfl), (hE.kept kk (fun e => e) (fun e => e)).key, (hE.kept kk (fun e => e) (fun e => e)).sl, (hE.kept kk (fun e => e) (fun e => e)).data.conv⟩)
      have hHN : (i : Int) < (n : Int) := by omega
      clear hx hq hnd1 hne hAB hA hB hnext hxm kwr hE hrowE hg hrow hfr hkr hj hnb
      go_wp2_with fail
      go_loopw [6] (fun s6 wq => ∃ t : Nat, j ≤ t ∧ t ≤ i ∧ s6 = .int .i64 (t : Int) ∧ Kept (fun _ => False) wr wq) (fun s6 _ => (intOf s6).toNat)
      case atStart => exact ⟨i, by omega, Nat.le_refl _, rfl, Kept.refl _ _⟩
      case round =>
        obtain ⟨t, hjt, hti, rfl, hkq⟩ := hrel
        have KQ := Lib.hid hkq
        obtain ⟨w9, hw9, t9⟩ : ∃ w9, w9 = wr.drew ∧ Twin w9 wr := ⟨_, rfl, rfl, rfl, rfl, rfl⟩
        have k9 : Kept (fun _ => False) wr w9 := (Kept.refl _ _).twin t9
        have hkq9 := hkq.trans k9 (fun _ _ e => e)
        have K9 := Lib.hid hkq9
        obtain ⟨c1, c2, -, -⟩ := EX.out wr KQ.out
        have HW9 := Lib.hid hw9
        have HIN := Lib.hid hHN
        clear hkq k9 t9 hkq9 hw9
        by_cases hjlt : j < t
        · obtain ⟨t', rfl⟩ : ∃ t', t = t' + 1 := ⟨t - 1, by omega⟩
          obtain ⟨y, hy⟩ : ∃ y, (A ++ B)[t']? = some y := ⟨_, List.getElem?_eq_getElem (by rw [List.length_append, AB.out.2.1, AB.out.2.2]; omega)⟩
          have hyB : y ∈ B := by
            rw [List.getElem?_append_right (by rw [AB.out.2.1]; omega)] at hy
            exact List.mem_of_getElem? hy
          have hgt := AB.out.1.2 y hyB
          have hrow9 := ownsRow_kept R.out.1 KQ.out (fun _ _ e => e)
          obtain ⟨sa', sc', e, hg, -, -⟩ := own_form hrow9
          obtain ⟨sg, hsg⟩ := hg (by omega)
          cases e
          subst hsg
          have d0 := own_cell hrow9 (prV_at hy).1
          obtain ⟨hb1, hb2⟩ := le_no11 hgt
          have n1 : (0 : Int) ≤ (t' : Int) + 1 := by omega
          have n2 : (t' : Int) < (i : Int) := by omega
          have n3 : (0 : Int) < (t' : Int) + 1 := by omega
          have n4 : IntKind.i64.wrap ((t' : Int) + 1 - 1) = (t' : Int) := by rw [IntWalk.i64_in _ (by omega)]; omega
          have n6 : IntKind.i64.wrap (t' : Int) = (t' : Int) := IntWalk.i64_in _ (by omega)
          have n5 : wrap64 ((t' : Int) + 1 - 1) = (t' : Int) := by rw [IntWalk.wrap64_in _ (by omega)]; omega
          have n7 : (0 : Int) ≤ (t' : Int) := by omega
          have n8 : decide ((0 : Int) < (t' : Int) + 1) = true := decide_eq_true n3
          clear hy hyB hgt hrow9 hg
          go_wp2_with fail
          go_region
          go_wp2_with fail
          go_roundw
          case rel => exact ⟨t', by omega, by omega, by go_num, by rw [HW9.out] at K9; exact K9.out⟩
          case measure => (simp [intOf] <;> omega)
        · obtain rfl : t = j := by omega
          have hcs : t = 0 ∨ 0 < t := by omega
          rcases hcs with hj0 | hj0
          case' inl =>
            subst hj0
            go_wp2_with fail
            go_region
            go_wp2_with fail
            rw [← HW9.out]
            clear c1 c2
            refine wp_region_heldE 17 (S := fun w' => w'.cell? ⟨g, i, none⟩ = some (.pointer (some ⟨x.b, 0, none⟩)) ∧ w'.cell? ⟨x.b, 0, none⟩ = some (.string x.key) ∧ w'.cell? ⟨x.b, 1, none⟩ = some (.slice (some ⟨x.d, 0, none⟩) x.data.size x.c) ∧ (convert 23 9 (.slice (some ⟨x.d, 0, none⟩) x.data.size x.c)).run Tryz.prog w' = .ok (.string x.data) w') (by kernel_rfl) ?_ (fun hHeld => ?_)
            · exact EX.out _ (K9.out.trans ((Kept.refl _ _).twin ⟨rfl, rfl, rfl, rfl⟩) (fun _ _ e => e))
            refine heldE_take 0 (oi := _) (v := ?_) rfl (by kernel_rfl) (by kernel_rfl) (by kernel_rfl) (by kernel_rfl) (fun _ _ _ h => h) (by rfl) (fun w hSw => ?_) (by assumption) ?_
            rotate_left
            · (try dsimp only at hSw); go_simp; try with_reducible rfl
            try simp only [Act.put, List.setIfInBounds_toArray, List.set_cons_zero, List.set_cons_succ]
            refine heldE_take 1 (oi := _) (v := ?_) rfl (by kernel_rfl) (by kernel_rfl) (by kernel_rfl) (by kernel_rfl) (fun _ _ _ h => h) (by rfl) (fun w hSw => ?_) (by assumption) ?_
            rotate_left
            · (try dsimp only at hSw); go_simp; try with_reducible rfl
            try simp only [Act.put, List.setIfInBounds_toArray, List.set_cons_zero, List.set_cons_succ]
            refine heldE_take 2 (oi := _) (v := ?_) rfl (by kernel_rfl) (by kernel_rfl) (by kernel_rfl) (by kernel_rfl) (fun _ _ _ h => h) (by rfl) (fun w hSw => ?_) (by assumption) ?_
            rotate_left
            · (try dsimp only at hSw); go_simp; try with_reducible rfl
            try simp only [Act.put, List.setIfInBounds_toArray, List.set_cons_zero, List.set_cons_succ]
            refine heldE_take 3 (oi := _) (v := ?_) rfl (by kernel_rfl) (by kernel_rfl) (by kernel_rfl) (by kernel_rfl) (fun _ _ _ h => h) (by rfl) (fun w hSw => ?_) (by assumption) ?_
            rotate_left
            · (try dsimp only at hSw); go_simp; try with_reducible rfl
            try simp only [Act.put, List.setIfInBounds_toArray, List.set_cons_zero, List.set_cons_succ]
            refine heldE_take 4 (oi := _) (v := ?_) rfl (by kernel_rfl) (by kernel_rfl) (by kernel_rfl) (by kernel_rfl) (fun _ _ _ h => h) (by rfl) (fun w hSw => ?_) (by assumption) ?_
            rotate_left
            · (try dsimp only at hSw); go_simp; try with_reducible rfl
            try simp only [Act.put, List.setIfInBounds_toArray, List.set_cons_zero, List.set_cons_succ]
            refine heldE_take 5 (oi := _) (v := ?_) rfl (by kernel_rfl) (by kernel_rfl) (by kernel_rfl) (by kernel_rfl) (fun _ _ _ h => h) (by rfl) (fun w hSw => ?_) (by assumption) ?_
            rotate_left
            · (try dsimp only at hSw); go_simp; try with_reducible rfl
            try simp only [Act.put, List.setIfInBounds_toArray, List.set_cons_zero, List.set_cons_succ]
            refine heldE_take 6 (oi := _) (v := ?_) rfl (by kernel_rfl) (by kernel_rfl) (by kernel_rfl) (by kernel_rfl) (fun _ _ _ h => h) (by rfl) (fun w hSw => ?_) (by assumption) ?_
            rotate_left
            · (try dsimp only at hSw); go_simp; try with_reducible rfl
            try simp only [Act.put, List.setIfInBounds_toArray, List.set_cons_zero, List.set_cons_succ]
            refine heldE_take 7 (oi := _) (v := ?_) rfl (by kernel_rfl) (by kernel_rfl) (by kernel_rfl) (by kernel_rfl) (fun _ _ _ h => h) (by rfl) (fun w hSw => ?_) (by assumption) ?_
            rotate_left
            · (try dsimp only at hSw); go_simp; try with_reducible rfl
            try simp only [Act.put, List.setIfInBounds_toArray, List.set_cons_zero, List.set_cons_succ]
            refine heldE_take 8 (oi := _) (v := ?_) rfl (by kernel_rfl) (by kernel_rfl) (by kernel_rfl) (by kernel_rfl) (fun _ _ _ h => h) (by rfl) (fun w hSw => ?_) (by assumption) ?_
            rotate_left
            · (try dsimp only at hSw); go_simp; try with_reducible rfl
            try simp only [Act.put, List.setIfInBounds_toArray, List.set_cons_zero, List.set_cons_succ]
            refine heldE_take 9 (oi := _) (v := ?_) rfl (by kernel_rfl) (by kernel_rfl) (by kernel_rfl) (by kernel_rfl) (fun _ _ _ h => h) (by rfl) (fun w hSw => ?_) (by assumption) ?_
            rotate_left
            · (try dsimp only at hSw); go_simp; try with_reducible rfl
            try simp only [Act.put, List.setIfInBounds_toArray, List.set_cons_zero, List.set_cons_succ]
            refine heldE_take 10 (oi := _) (v := ?_) rfl (by kernel_rfl) (by kernel_rfl) (by kernel_rfl) (by kernel_rfl) (fun _ _ _ h => h) (by rfl) (fun w hSw => ?_) (by assumption) ?_
            rotate_left
            · (try dsimp only at hSw); go_simp; try with_reducible rfl
            try simp only [Act.put, List.setIfInBounds_toArray, List.set_cons_zero, List.set_cons_succ]
            refine heldE_take 11 (oi := _) (v := ?_) rfl (by kernel_rfl) (by kernel_rfl) (by kernel_rfl) (by kernel_rfl) (fun _ _ _ h => h) (by rfl) (fun w hSw => ?_) (by assumption) ?_
            rotate_left
            · (try dsimp only at hSw); go_simp; try with_reducible rfl
            try simp only [Act.put, List.setIfInBounds_toArray, List.set_cons_zero, List.set_cons_succ]
            refine heldE_take 12 (oi := _) (v := ?_) rfl (by kernel_rfl) (by kernel_rfl) (by kernel_rfl) (by kernel_rfl) (fun _ _ _ h => h) (by rfl) (fun w hSw => ?_) (by assumption) ?_
            rotate_left
            · (try dsimp only at hSw); go_simp; try with_reducible rfl
            try simp only [Act.put, List.setIfInBounds_toArray, List.set_cons_zero, List.set_cons_succ]
            refine heldE_take 13 (oi := _) (v := ?_) rfl (by kernel_rfl) (by kernel_rfl) (by kernel_rfl) (by kernel_rfl) (fun _ _ _ h => h) (by rfl) (fun w hSw => ?_) (by assumption) ?_
            rotate_left
            · (try dsimp only at hSw); go_simp; try with_reducible rfl
            try simp only [Act.put, List.setIfInBounds_toArray, List.set_cons_zero, List.set_cons_succ]
            refine heldE_take 14 (oi := _) (v := ?_) rfl (by kernel_rfl) (by kernel_rfl) (by kernel_rfl) (by kernel_rfl) (fun _ _ _ h => h) (by rfl) (fun w hSw => ?_) (by assumption) ?_
            rotate_left
            · (try dsimp only at hSw); go_simp; try with_reducible rfl
            try simp only [Act.put, List.setIfInBounds_toArray, List.set_cons_zero, List.set_cons_succ]
            refine heldE_take 15 (oi := _) (v := ?_) rfl (by kernel_rfl) (by kernel_rfl) (by kernel_rfl) (by kernel_rfl) (fun _ _ _ h => h) (by rfl) (fun w hSw => ?_) (by assumption) ?_
            rotate_left
            · (try dsimp only at hSw); go_simp; try with_reducible rfl
            try simp only [Act.put, List.setIfInBounds_toArray, List.set_cons_zero, List.set_cons_succ]
            refine wpAnyE_ready (rs := [16]) (by kernel_rfl) (by simp) ?_
            refine heldE_cons 16 (o := _) rfl (fun KC hKC => ?_) AllReadyE.nil
            go_simp
            first | refine alloc_abs (K := KC _) ?_ | refine alloc_absD (K := KC _) ?_
            intro wS kS hS
            obtain ⟨xb, hxb, hS⟩ := heap_name11 hS
            have TS := Lib.hid (show Kept (fun _ => False) w9 wS from kS)
            have XBL := Lib.hid (show w9.heap.size ≤ xb from Nat.le_of_eq hxb)
            rw [hxb]
            have XB := Lib.hid (two_heap hS)
            have hx0 := XB.out.c0
            have hx1 := XB.out.c1
            have hf0 := XB.out.row.frozen 0
            have hf1 := XB.out.row.frozen 1
            clear kS hS hxb
            refine hKC.out _ _ ?_ (fun hHeld => ?_)
            · exact EX.out _ (K9.out.trans TS.out (fun _ _ e => e))
            clear hKC KC
            try simp only [Act.put, List.setIfInBounds_toArray, List.set_cons_zero, List.set_cons_succ]
            refine wpAnyE_ready (rs := [17]) (by kernel_rfl) (by simp) ?_
            refine heldE_last (o := _) rfl (fun KC hKC => ?_) AllReadyE.nil
            go_simp
            refine hKC.out _ _ ?_
            clear hKC KC
            try simp only [Act.put, List.setIfInBounds_toArray, List.set_cons_zero, List.set_cons_succ]
            refine wpAnyE_done (by kernel_rfl) (NoPanic.normal ?_) _
            generalize hw2 : ((World.setCell wS ⟨xb, 0, none⟩ (Value.string x.key)).setCell ⟨xb, 1, none⟩ (Value.string x.data)) = w2
            have k92 : Kept (fun _ => False) w9 w2 := by
              rw [← hw2]
              exact (TS.out.trans (Kept.one_set wS ⟨xb, 0, none⟩ _) (fun b hb e => by have e : b = xb := e; have := XBL.out; omega)).trans (Kept.one_set _ ⟨xb, 1, none⟩ _) (fun b hb e => by have e : b = xb := e; have := XBL.out; omega)
            have k2 := K9.out.trans k92 (fun _ _ e => e)
            have hxc : w2.cell? ⟨xb, 0, none⟩ = some (.string x.key) ∧ w2.cell? ⟨xb, 1, none⟩ = some (.string x.data) ∧ xb < w2.heap.size := by
              rw [← hw2]
              exact ⟨(cell_set_other _ (by omega)).trans (cell_set_same XB.out.row (by omega) _), cell_set_same (XB.out.row.setCell _ _) (by omega) _, ((XB.out.row.setCell _ _).setCell _ _).lt⟩
            have CX := Lib.hid (show ∀ w', Kept (fun _ => False) w2 w' → w'.cell? ⟨xb, 0, none⟩ = some (.string x.key) ∧ w'.cell? ⟨xb, 1, none⟩ = some (.string x.data) from fun w' kk => ⟨(kk.cell (p := ⟨xb, 0, none⟩) hxc.2.2 (fun e => e)).trans hxc.1, (kk.cell (p := ⟨xb, 1, none⟩) hxc.2.2 (fun e => e)).trans hxc.2.1⟩)
            have HH := Lib.hid (pair_holds (ownsRow_kept R.out.1 k2 (fun _ _ e => e)) AB.out.2.1 (by rw [AB.out.2.2]; omega))
            have K2 := Lib.hid k2
            first | (have HH1 := Lib.hid (pair_holds1 (ownsRow_kept R.out.1 k2 (fun _ _ e => e)) AB.out.2.1 (by rw [AB.out.2.2]; omega)); skip) | skip
            have H0 := Lib.hid (fun (hz : (0) = 0) => pair_holds0 (ownsRow_kept R.out.1 k2 (fun _ _ e => e)) (AB.out.2.1.trans hz))
            have hJ0 : (0 : Int) ≤ (0 : Int) := by omega
            have hJ1 : (0 : Int) ≤ (sc : Int) := by omega
            have hJ2 : (0 : Int) ≤ (i : Int) := by omega
            have hsub : i - (0) = i := by omega
            have hix := hxc.1
            have hix1 := hxc.2.1
            have hnb : i ≤ 1024 := by omega
            clear hw2 k92 k2 hxc hx0 hx1 hf0 hf1
            go_wp2_with fail
            refine wp_region_heldE 12 (S := fun w' => w'.cell? ⟨xb, 0, none⟩ = some (.string x.key) ∧ w'.cell? ⟨xb, 1, none⟩ = some (.string x.data)) (by kernel_rfl) ?_ (fun hHeld => ?_)
            · exact CX.out _ ((Kept.refl (fun _ => False) w2).drew)
            refine heldE_take 1 (oi := _) (v := ?_) rfl (by kernel_rfl) (by kernel_rfl) (by kernel_rfl) (by kernel_rfl) (fun _ _ _ h => h) (by rfl) (fun w hSw => ?_) (by assumption) ?_
            rotate_left
            · (try dsimp only at hSw); go_simp; try with_reducible rfl
            try simp only [Act.put, List.setIfInBounds_toArray, List.set_cons_zero, List.set_cons_succ]
            refine heldE_take 2 (oi := _) (v := ?_) rfl (by kernel_rfl) (by kernel_rfl) (by kernel_rfl) (by kernel_rfl) (fun _ _ _ h => h) (by rfl) (fun w hSw => ?_) (by assumption) ?_
            rotate_left
            · (try dsimp only at hSw); go_simp; try with_reducible rfl
            try simp only [Act.put, List.setIfInBounds_toArray, List.set_cons_zero, List.set_cons_succ]
            refine heldE_take 3 (oi := _) (v := ?_) rfl (by kernel_rfl) (by kernel_rfl) (by kernel_rfl) (by kernel_rfl) (fun _ _ _ h => h) (by rfl) (fun w hSw => ?_) (by assumption) ?_
            rotate_left
            · (try dsimp only at hSw); go_simp; try with_reducible rfl
            try simp only [Act.put, List.setIfInBounds_toArray, List.set_cons_zero, List.set_cons_succ]
            refine heldE_take 5 (oi := _) (v := ?_) rfl (by kernel_rfl) (by kernel_rfl) (by kernel_rfl) (by kernel_rfl) (fun _ _ _ h => h) (by rfl) (fun w hSw => ?_) (by assumption) ?_
            rotate_left
            · (try dsimp only at hSw); go_simp; try with_reducible rfl
            try simp only [Act.put, List.setIfInBounds_toArray, List.set_cons_zero, List.set_cons_succ]
            refine heldE_take 8 (oi := _) (v := ?_) rfl (by kernel_rfl) (by kernel_rfl) (by kernel_rfl) (by kernel_rfl) (fun _ _ _ h => h) (by rfl) (fun w hSw => ?_) (by assumption) ?_
            rotate_left
            · (try dsimp only at hSw); go_simp; try with_reducible rfl
            try simp only [Act.put, List.setIfInBounds_toArray, List.set_cons_zero, List.set_cons_succ]
            refine heldE_take 9 (oi := _) (v := ?_) rfl (by kernel_rfl) (by kernel_rfl) (by kernel_rfl) (by kernel_rfl) (fun _ _ _ h => h) (by rfl) (fun w hSw => ?_) (by assumption) ?_
            rotate_left
            · (try dsimp only at hSw); go_simp; try with_reducible rfl
            try simp only [Act.put, List.setIfInBounds_toArray, List.set_cons_zero, List.set_cons_succ]
            refine heldE_take 10 (oi := _) (v := ?_) rfl (by kernel_rfl) (by kernel_rfl) (by kernel_rfl) (by kernel_rfl) (fun _ _ _ h => h) (by rfl) (fun w hSw => ?_) (by assumption) ?_
            rotate_left
            · (try dsimp only at hSw); go_simp; try with_reducible rfl
            try simp only [Act.put, List.setIfInBounds_toArray, List.set_cons_zero, List.set_cons_succ]
            refine wpAnyE_ready (rs := [0, 6]) (by kernel_rfl) (by simp) ?_
            refine heldE_cons 0 (o := _) rfl (fun KC hKC => ?_) (heldE_cons 6 (o := _) rfl (fun KC hKC => ?_) AllReadyE.nil)
            ·
              go_simp
              first | refine alloc_abs (K := KC _) ?_ | refine alloc_absD (K := KC _) ?_
              intro wE kE hE
              have TE := Lib.hid (show Kept (fun _ => False) w2 wE from by first | exact TY.out.trans kE (fun _ _ e => e) | exact kE)
              have FE := Lib.hid (by first | exact own_fresh (n := 0) (c := 0) TY.out.size | exact own_fresh (n := 0) (c := 0) (Nat.le_refl w2.heap.size))
              have KE := Lib.hid kE
              have HE := Lib.hid hE
              clear kE hE
              refine hKC.out _ _ ?_ (fun hHeld => ?_)
              · first | exact CX.out _ T18.out | exact CX.out _ T11.out | exact CX.out _ TY.out | exact CX.out _ TE.out | exact CX.out _ T8.out
              clear hKC KC
              try simp only [Act.put, List.setIfInBounds_toArray, List.set_cons_zero, List.set_cons_succ]
              refine wpAnyE_ready (rs := [4, 6]) (by kernel_rfl) (by simp) ?_
              refine heldE_cons 4 (o := _) rfl (fun KC hKC => ?_) (heldE_cons 6 (o := _) rfl (fun KC hKC => ?_) AllReadyE.nil)
              ·
                refine step_append_mine rfl (.tmp 55) (.tmp 58) rpairE rfl rfl (by first | exact own_empty_at HE.out | exact own_empty_at (kept_block KY.out HE.out)) _ (0) _ (prV A) rfl (by rw [prV_len, AB.out.2.1]) (by first | exact (HH.out _ TE.out).1 | exact (HH.out _ TY.out).1) (prV_one A) (by unfold maxLen; omega) (by omega) ?_
                intro a1 c1 w8 o8 k8 b8
                rw [Nat.zero_add] at o8 b8
                simp only [List.nil_append] at o8
                have T8 := Lib.hid (show Kept (fun _ => False) w2 w8 from by first | exact kept_own TE.out FE.out k8 | exact kept_own TY.out FE.out k8)
                have F8 := Lib.hid (by first | exact own_or FE.out TE.out.size b8 | exact own_or FE.out TY.out.size b8)
                have K8 := Lib.hid k8
                have O8 := Lib.hid o8
                clear o8 k8 b8
                try simp only [Nat.zero_add]
                refine hKC.out _ _ ?_ (fun hHeld => ?_)
                · first | exact CX.out _ T18.out | exact CX.out _ T11.out | exact CX.out _ TY.out | exact CX.out _ TE.out | exact CX.out _ T8.out
                clear hKC KC
                try simp only [Act.put, List.setIfInBounds_toArray, List.set_cons_zero, List.set_cons_succ]
                refine wpAnyE_ready (rs := [6]) (by kernel_rfl) (by simp) ?_
                refine heldE_cons 6 (o := _) rfl (fun KC hKC => ?_) AllReadyE.nil
                go_simp
                first | refine alloc_abs (K := KC _) ?_ | refine alloc_absD (K := KC _) ?_
                intro wY kY hY
                have TY := Lib.hid (show Kept (fun _ => False) w2 wY from by first | exact T8.out.trans kY (fun _ _ e => e) | exact TE.out.trans kY (fun _ _ e => e) | exact kY)
                have KY := Lib.hid kY
                have HY := Lib.hid hY
                clear kY hY
                refine hKC.out _ _ ?_ (fun hHeld => ?_)
                · first | exact CX.out _ T18.out | exact CX.out _ T11.out | exact CX.out _ TY.out | exact CX.out _ TE.out | exact CX.out _ T8.out
                clear hKC KC
                try simp only [Act.put, List.setIfInBounds_toArray, List.set_cons_zero, List.set_cons_succ]
                refine wpAnyE_ready (rs := [7]) (by kernel_rfl) (by simp) ?_
                refine heldE_cons 7 (o := _) rfl (fun KC hKC => ?_) AllReadyE.nil
                refine step_append_mine rfl (.tmp 59) (.tmp 61) rpairE rfl rfl (by first | exact ownsRow_kept O8.out KY.out (fun _ _ e => e) | exact O8.out) (some ⟨_, 0, none⟩) 1 1 [.string x.key, .string x.data] rfl rfl (by first | exact holds_block HY.out | exact hold_two (kept_block KY.out HE.out) HY.out K8.out | exact hold_two HE.out (kept_block KE.out HY.out) K8.out) (by simp [Value.oneCell']) (by unfold maxLen; omega) (by omega) ?_
                intro a3 c3 w11 o11 k11 b11
                have T11 := Lib.hid (show Kept (fun _ => False) w2 w11 from by first | exact kept_own T8.out F8.out k11 | exact kept_own TY.out F8.out k11)
                have F11 := Lib.hid (by first | exact own_or F8.out T8.out.size b11 | exact own_or F8.out TY.out.size b11)
                have O11 := Lib.hid o11
                clear o11 k11 b11
                refine hKC.out _ _ ?_ (fun hHeld => ?_)
                · first | exact CX.out _ T18.out | exact CX.out _ T11.out | exact CX.out _ TY.out | exact CX.out _ TE.out | exact CX.out _ T8.out
                clear hKC KC
                try simp only [Act.put, List.setIfInBounds_toArray, List.set_cons_zero, List.set_cons_succ]
                refine wpAnyE_ready (rs := [11]) (by kernel_rfl) (by simp) ?_
                refine heldE_cons 11 (o := _) rfl (fun KC hKC => ?_) AllReadyE.nil
                refine step_append_mine rfl (.tmp 62) (.tmp 65) rpairE rfl rfl O11.out _ (i) _ (prV B) rfl (by rw [prV_len, AB.out.2.2]; try omega) (by first | exact (HH.out _ T11.out).2 | exact H0.out (by first | rfl | trivial) _ T11.out | exact (HH1.out _ T11.out)) (prV_one B) (by unfold maxLen; omega) (by omega) ?_
                intro a5 c5 w18 o18 k18 b18
                have T18 := Lib.hid (kept_own T11.out F11.out k18)
                have F18 := Lib.hid (own_or F11.out T11.out.size b18)
                have O18 := Lib.hid o18
                clear o18 k18 b18
                refine hKC.out _ _ ?_ (fun hHeld => ?_)
                · first | exact CX.out _ T18.out | exact CX.out _ T11.out | exact CX.out _ TY.out | exact CX.out _ TE.out | exact CX.out _ T8.out
                clear hKC KC
                try simp only [Act.put, List.setIfInBounds_toArray, List.set_cons_zero, List.set_cons_succ]
                refine wpAnyE_ready (rs := [12]) (by kernel_rfl) (by simp) ?_
                refine heldE_last (o := _) rfl (fun KC hKC => ?_) AllReadyE.nil
                go_simp
                refine hKC.out _ _ ?_
                clear hKC KC
                try simp only [Act.put, List.setIfInBounds_toArray, List.set_cons_zero, List.set_cons_succ]
                refine wpAnyE_done (by kernel_rfl) (NoPanic.normal ?_) _
                have o18 := O18.out
                have hJN : 0 + 1 + i = i + 1 := by omega
                rw [hJN] at o18
                have F18' := F18.out
                try simp only [Nat.zero_add] at F18'
                rw [show prV A ++ [.string x.key, .string x.data] ++ prV B = prV (A ++ (x.key, x.data) :: B) from by rw [prV_append, List.append_assoc]; rfl, ← R.out.2.2.2] at o18
                have OO := Lib.hid (And.intro o18 F18')
                clear o18 F18' hsub hix hix1 hnb hJN
                go_wp2_with fail
                go_roundw
                case rel =>
                  refine ⟨i + 1, a5, c5, by omega, by go_num, by congr 1; omega, OO.out.1, fun b e => ?_, (R.out.2.2.1.trans K2.out (fun _ _ e => e)).trans T18.out (fun _ _ e => e)⟩
                  have h1 := OO.out.2 b (own_len11 e)
                  have h2 := ((O0.out.2.trans O1.out.2.2 (fun _ _ e => e)).trans (R.out.2.2.1.trans K2.out (fun _ _ e => e)) (fun _ _ e => e)).size
                  omega
                case measure => (simp [intOf] <;> omega)
              ·
                go_simp
                first | refine alloc_abs (K := KC _) ?_ | refine alloc_absD (K := KC _) ?_
                intro wY kY hY
                have TY := Lib.hid (show Kept (fun _ => False) w2 wY from by first | exact T8.out.trans kY (fun _ _ e => e) | exact TE.out.trans kY (fun _ _ e => e) | exact kY)
                have KY := Lib.hid kY
                have HY := Lib.hid hY
                clear kY hY
                refine hKC.out _ _ ?_ (fun hHeld => ?_)
                · first | exact CX.out _ T18.out | exact CX.out _ T11.out | exact CX.out _ TY.out | exact CX.out _ TE.out | exact CX.out _ T8.out
                clear hKC KC
                try simp only [Act.put, List.setIfInBounds_toArray, List.set_cons_zero, List.set_cons_succ]
                refine wpAnyE_ready (rs := [4]) (by kernel_rfl) (by simp) ?_
                refine heldE_cons 4 (o := _) rfl (fun KC hKC => ?_) AllReadyE.nil
                refine step_append_mine rfl (.tmp 55) (.tmp 58) rpairE rfl rfl (by first | exact own_empty_at HE.out | exact own_empty_at (kept_block KY.out HE.out)) _ (0) _ (prV A) rfl (by rw [prV_len, AB.out.2.1]) (by first | exact (HH.out _ TE.out).1 | exact (HH.out _ TY.out).1) (prV_one A) (by unfold maxLen; omega) (by omega) ?_
                intro a1 c1 w8 o8 k8 b8
                rw [Nat.zero_add] at o8 b8
                simp only [List.nil_append] at o8
                have T8 := Lib.hid (show Kept (fun _ => False) w2 w8 from by first | exact kept_own TE.out FE.out k8 | exact kept_own TY.out FE.out k8)
                have F8 := Lib.hid (by first | exact own_or FE.out TE.out.size b8 | exact own_or FE.out TY.out.size b8)
                have K8 := Lib.hid k8
                have O8 := Lib.hid o8
                clear o8 k8 b8
                try simp only [Nat.zero_add]
                refine hKC.out _ _ ?_ (fun hHeld => ?_)
                · first | exact CX.out _ T18.out | exact CX.out _ T11.out | exact CX.out _ TY.out | exact CX.out _ TE.out | exact CX.out _ T8.out
                clear hKC KC
                try simp only [Act.put, List.setIfInBounds_toArray, List.set_cons_zero, List.set_cons_succ]
                refine wpAnyE_ready (rs := [7]) (by kernel_rfl) (by simp) ?_
                refine heldE_cons 7 (o := _) rfl (fun KC hKC => ?_) AllReadyE.nil
                refine step_append_mine rfl (.tmp 59) (.tmp 61) rpairE rfl rfl (by first | exact ownsRow_kept O8.out KY.out (fun _ _ e => e) | exact O8.out) (some ⟨_, 0, none⟩) 1 1 [.string x.key, .string x.data] rfl rfl (by first | exact holds_block HY.out | exact hold_two (kept_block KY.out HE.out) HY.out K8.out | exact hold_two HE.out (kept_block KE.out HY.out) K8.out) (by simp [Value.oneCell']) (by unfold maxLen; omega) (by omega) ?_
                intro a3 c3 w11 o11 k11 b11
                have T11 := Lib.hid (show Kept (fun _ => False) w2 w11 from by first | exact kept_own T8.out F8.out k11 | exact kept_own TY.out F8.out k11)
                have F11 := Lib.hid (by first | exact own_or F8.out T8.out.size b11 | exact own_or F8.out TY.out.size b11)
                have O11 := Lib.hid o11
                clear o11 k11 b11
                refine hKC.out _ _ ?_ (fun hHeld => ?_)
                · first | exact CX.out _ T18.out | exact CX.out _ T11.out | exact CX.out _ TY.out | exact CX.out _ TE.out | exact CX.out _ T8.out
                clear hKC KC
                try simp only [Act.put, List.setIfInBounds_toArray, List.set_cons_zero, List.set_cons_succ]
                refine wpAnyE_ready (rs := [11]) (by kernel_rfl) (by simp) ?_
                refine heldE_cons 11 (o := _) rfl (fun KC hKC => ?_) AllReadyE.nil
                refine step_append_mine rfl (.tmp 62) (.tmp 65) rpairE rfl rfl O11.out _ (i) _ (prV B) rfl (by rw [prV_len, AB.out.2.2]; try omega) (by first | exact (HH.out _ T11.out).2 | exact H0.out (by first | rfl | trivial) _ T11.out | exact (HH1.out _ T11.out)) (prV_one B) (by unfold maxLen; omega) (by omega) ?_
                intro a5 c5 w18 o18 k18 b18
                have T18 := Lib.hid (kept_own T11.out F11.out k18)
                have F18 := Lib.hid (own_or F11.out T11.out.size b18)
                have O18 := Lib.hid o18
                clear o18 k18 b18
                refine hKC.out _ _ ?_ (fun hHeld => ?_)
                · first | exact CX.out _ T18.out | exact CX.out _ T11.out | exact CX.out _ TY.out | exact CX.out _ TE.out | exact CX.out _ T8.out
                clear hKC KC
                try simp only [Act.put, List.setIfInBounds_toArray, List.set_cons_zero, List.set_cons_succ]
                refine wpAnyE_ready (rs := [12]) (by kernel_rfl) (by simp) ?_
                refine heldE_last (o := _) rfl (fun KC hKC => ?_) AllReadyE.nil
                go_simp
                refine hKC.out _ _ ?_
                clear hKC KC
                try simp only [Act.put, List.setIfInBounds_toArray, List.set_cons_zero, List.set_cons_succ]
                refine wpAnyE_done (by kernel_rfl) (NoPanic.normal ?_) _
                have o18 := O18.out
                have hJN : 0 + 1 + i = i + 1 := by omega
                rw [hJN] at o18
                have F18' := F18.out
                try simp only [Nat.zero_add] at F18'
                rw [show prV A ++ [.string x.key, .string x.data] ++ prV B = prV (A ++ (x.key, x.data) :: B) from by rw [prV_append, List.append_assoc]; rfl, ← R.out.2.2.2] at o18
                have OO := Lib.hid (And.intro o18 F18')
                clear o18 F18' hsub hix hix1 hnb hJN
                go_wp2_with fail
                go_roundw
                case rel =>
                  refine ⟨i + 1, a5, c5, by omega, by go_num, by congr 1; omega, OO.out.1, fun b e => ?_, (R.out.2.2.1.trans K2.out (fun _ _ e => e)).trans T18.out (fun _ _ e => e)⟩
                  have h1 := OO.out.2 b (own_len11 e)
                  have h2 := ((O0.out.2.trans O1.out.2.2 (fun _ _ e => e)).trans (R.out.2.2.1.trans K2.out (fun _ _ e => e)) (fun _ _ e => e)).size
                  omega
                case measure => (simp [intOf] <;> omega)
            ·
              go_simp
              first | refine alloc_abs (K := KC _) ?_ | refine alloc_absD (K := KC _) ?_
              intro wY kY hY
              have TY := Lib.hid (show Kept (fun _ => False) w2 wY from by first | exact T8.out.trans kY (fun _ _ e => e) | exact TE.out.trans kY (fun _ _ e => e) | exact kY)
              have KY := Lib.hid kY
              have HY := Lib.hid hY
              clear kY hY
              refine hKC.out _ _ ?_ (fun hHeld => ?_)
              · first | exact CX.out _ T18.out | exact CX.out _ T11.out | exact CX.out _ TY.out | exact CX.out _ TE.out | exact CX.out _ T8.out
              clear hKC KC
              try simp only [Act.put, List.setIfInBounds_toArray, List.set_cons_zero, List.set_cons_succ]
              refine wpAnyE_ready (rs := [0]) (by kernel_rfl) (by simp) ?_
              refine heldE_cons 0 (o := _) rfl (fun KC hKC => ?_) AllReadyE.nil
              go_simp
              first | refine alloc_abs (K := KC _) ?_ | refine alloc_absD (K := KC _) ?_
              intro wE kE hE
              have TE := Lib.hid (show Kept (fun _ => False) w2 wE from by first | exact TY.out.trans kE (fun _ _ e => e) | exact kE)
              have FE := Lib.hid (by first | exact own_fresh (n := 0) (c := 0) TY.out.size | exact own_fresh (n := 0) (c := 0) (Nat.le_refl w2.heap.size))
              have KE := Lib.hid kE
              have HE := Lib.hid hE
              clear kE hE
              refine hKC.out _ _ ?_ (fun hHeld => ?_)
              · first | exact CX.out _ T18.out | exact CX.out _ T11.out | exact CX.out _ TY.out | exact CX.out _ TE.out | exact CX.out _ T8.out
              clear hKC KC
              try simp only [Act.put, List.setIfInBounds_toArray, List.set_cons_zero, List.set_cons_succ]
              refine wpAnyE_ready (rs := [4]) (by kernel_rfl) (by simp) ?_
              refine heldE_cons 4 (o := _) rfl (fun KC hKC => ?_) AllReadyE.nil
              refine step_append_mine rfl (.tmp 55) (.tmp 58) rpairE rfl rfl (by first | exact own_empty_at HE.out | exact own_empty_at (kept_block KY.out HE.out)) _ (0) _ (prV A) rfl (by rw [prV_len, AB.out.2.1]) (by first | exact (HH.out _ TE.out).1 | exact (HH.out _ TY.out).1) (prV_one A) (by unfold maxLen; omega) (by omega) ?_
              intro a1 c1 w8 o8 k8 b8
              rw [Nat.zero_add] at o8 b8
              simp only [List.nil_append] at o8
              have T8 := Lib.hid (show Kept (fun _ => False) w2 w8 from by first | exact kept_own TE.out FE.out k8 | exact kept_own TY.out FE.out k8)
              have F8 := Lib.hid (by first | exact own_or FE.out TE.out.size b8 | exact own_or FE.out TY.out.size b8)
              have K8 := Lib.hid k8
              have O8 := Lib.hid o8
              clear o8 k8 b8
              try simp only [Nat.zero_add]
              refine hKC.out _ _ ?_ (fun hHeld => ?_)
              · first | exact CX.out _ T18.out | exact CX.out _ T11.out | exact CX.out _ TY.out | exact CX.out _ TE.out | exact CX.out _ T8.out
              clear hKC KC
              try simp only [Act.put, List.setIfInBounds_toArray, List.set_cons_zero, List.set_cons_succ]
              refine wpAnyE_ready (rs := [7]) (by kernel_rfl) (by simp) ?_
              refine heldE_cons 7 (o := _) rfl (fun KC hKC => ?_) AllReadyE.nil
              refine step_append_mine rfl (.tmp 59) (.tmp 61) rpairE rfl rfl (by first | exact ownsRow_kept O8.out KY.out (fun _ _ e => e) | exact O8.out) (some ⟨_, 0, none⟩) 1 1 [.string x.key, .string x.data] rfl rfl (by first | exact holds_block HY.out | exact hold_two (kept_block KY.out HE.out) HY.out K8.out | exact hold_two HE.out (kept_block KE.out HY.out) K8.out) (by simp [Value.oneCell']) (by unfold maxLen; omega) (by omega) ?_
              intro a3 c3 w11 o11 k11 b11
              have T11 := Lib.hid (show Kept (fun _ => False) w2 w11 from by first | exact kept_own T8.out F8.out k11 | exact kept_own TY.out F8.out k11)
              have F11 := Lib.hid (by first | exact own_or F8.out T8.out.size b11 | exact own_or F8.out TY.out.size b11)
              have O11 := Lib.hid o11
              clear o11 k11 b11
              refine hKC.out _ _ ?_ (fun hHeld => ?_)
              · first | exact CX.out _ T18.out | exact CX.out _ T11.out | exact CX.out _ TY.out | exact CX.out _ TE.out | exact CX.out _ T8.out
              clear hKC KC
              try simp only [Act.put, List.setIfInBounds_toArray, List.set_cons_zero, List.set_cons_succ]
              refine wpAnyE_ready (rs := [11]) (by kernel_rfl) (by simp) ?_
              refine heldE_cons 11 (o := _) rfl (fun KC hKC => ?_) AllReadyE.nil
              refine step_append_mine rfl (.tmp 62) (.tmp 65) rpairE rfl rfl O11.out _ (i) _ (prV B) rfl (by rw [prV_len, AB.out.2.2]; try omega) (by first | exact (HH.out _ T11.out).2 | exact H0.out (by first | rfl | trivial) _ T11.out | exact (HH1.out _ T11.out)) (prV_one B) (by unfold maxLen; omega) (by omega) ?_
              intro a5 c5 w18 o18 k18 b18
              have T18 := Lib.hid (kept_own T11.out F11.out k18)
              have F18 := Lib.hid (own_or F11.out T11.out.size b18)
              have O18 := Lib.hid o18
              clear o18 k18 b18
              refine hKC.out _ _ ?_ (fun hHeld => ?_)
              · first | exact CX.out _ T18.out | exact CX.out _ T11.out | exact CX.out _ TY.out | exact CX.out _ TE.out | exact CX.out _ T8.out
              clear hKC KC
              try simp only [Act.put, List.setIfInBounds_toArray, List.set_cons_zero, List.set_cons_succ]
              refine wpAnyE_ready (rs := [12]) (by kernel_rfl) (by simp) ?_
              refine heldE_last (o := _) rfl (fun KC hKC => ?_) AllReadyE.nil
              go_simp
              refine hKC.out _ _ ?_
              clear hKC KC
              try simp only [Act.put, List.setIfInBounds_toArray, List.set_cons_zero, List.set_cons_succ]
              refine wpAnyE_done (by kernel_rfl) (NoPanic.normal ?_) _
              have o18 := O18.out
              have hJN : 0 + 1 + i = i + 1 := by omega
              rw [hJN] at o18
              have F18' := F18.out
              try simp only [Nat.zero_add] at F18'
              rw [show prV A ++ [.string x.key, .string x.data] ++ prV B = prV (A ++ (x.key, x.data) :: B) from by rw [prV_append, List.append_assoc]; rfl, ← R.out.2.2.2] at o18
              have OO := Lib.hid (And.intro o18 F18')
              clear o18 F18' hsub hix hix1 hnb hJN
              go_wp2_with fail
              go_roundw
              case rel =>
                refine ⟨i + 1, a5, c5, by omega, by go_num, by congr 1; omega, OO.out.1, fun b e => ?_, (R.out.2.2.1.trans K2.out (fun _ _ e => e)).trans T18.out (fun _ _ e => e)⟩
                have h1 := OO.out.2 b (own_len11 e)
                have h2 := ((O0.out.2.trans O1.out.2.2 (fun _ _ e => e)).trans (R.out.2.2.1.trans K2.out (fun _ _ e => e)) (fun _ _ e => e)).size
                omega
              case measure => (simp [intOf] <;> omega)
          case' inr =>
            obtain ⟨t', rfl⟩ : ∃ t', t = t' + 1 := ⟨t - 1, by omega⟩
            obtain ⟨y, hy⟩ : ∃ y, (A ++ B)[t']? = some y := ⟨_, List.getElem?_eq_getElem (by rw [List.length_append, AB.out.2.1, AB.out.2.2]; omega)⟩
            have hyA : y ∈ A := by
              rw [List.getElem?_append_left (by rw [AB.out.2.1]; omega)] at hy
              exact List.mem_of_getElem? hy
            have hlt2 := AB.out.1.1 y hyA
            have hrow9 := ownsRow_kept R.out.1 KQ.out (fun _ _ e => e)
            obtain ⟨sa', sc', e, hg, -, -⟩ := own_form hrow9
            obtain ⟨sg, hsg⟩ := hg (by omega)
            cases e
            subst hsg
            have d0 := own_cell hrow9 (prV_at hy).1
            have hb1 : Op.bytesLess y.1.toList x.key.toList = true := by rw [keyLt_less]; exact hlt2
            have n1 : (0 : Int) ≤ (t' : Int) + 1 := by omega
            have n2 : (t' : Int) < (i : Int) := by omega
            have n3 : (0 : Int) < (t' : Int) + 1 := by omega
            have n4 : IntKind.i64.wrap ((t' : Int) + 1 - 1) = (t' : Int) := by rw [IntWalk.i64_in _ (by omega)]; omega
            have n6 : IntKind.i64.wrap (t' : Int) = (t' : Int) := IntWalk.i64_in _ (by omega)
            have n5 : wrap64 ((t' : Int) + 1 - 1) = (t' : Int) := by rw [IntWalk.wrap64_in _ (by omega)]; omega
            have n7 : (0 : Int) ≤ (t' : Int) := by omega
            have n8 : decide ((0 : Int) < (t' : Int) + 1) = true := decide_eq_true n3
            clear hy hyA hlt2 hrow9 hg
            go_wp2_with fail
            go_region
            clear n1 n2 n3 n4 n5 n6 n7 n8 hb1 d0
            go_wp2_with fail
            rw [← HW9.out]
            clear c1 c2
            refine wp_region_heldE 17 (S := fun w' => w'.cell? ⟨g, i, none⟩ = some (.pointer (some ⟨x.b, 0, none⟩)) ∧ w'.cell? ⟨x.b, 0, none⟩ = some (.string x.key) ∧ w'.cell? ⟨x.b, 1, none⟩ = some (.slice (some ⟨x.d, 0, none⟩) x.data.size x.c) ∧ (convert 23 9 (.slice (some ⟨x.d, 0, none⟩) x.data.size x.c)).run Tryz.prog w' = .ok (.string x.data) w') (by kernel_rfl) ?_ (fun hHeld => ?_)
            · exact EX.out _ (K9.out.trans ((Kept.refl _ _).twin ⟨rfl, rfl, rfl, rfl⟩) (fun _ _ e => e))
            refine heldE_take 0 (oi := _) (v := ?_) rfl (by kernel_rfl) (by kernel_rfl) (by kernel_rfl) (by kernel_rfl) (fun _ _ _ h => h) (by rfl) (fun w hSw => ?_) (by assumption) ?_
            rotate_left
            · (try dsimp only at hSw); go_simp; try with_reducible rfl
            try simp only [Act.put, List.setIfInBounds_toArray, List.set_cons_zero, List.set_cons_succ]
            refine heldE_take 1 (oi := _) (v := ?_) rfl (by kernel_rfl) (by kernel_rfl) (by kernel_rfl) (by kernel_rfl) (fun _ _ _ h => h) (by rfl) (fun w hSw => ?_) (by assumption) ?_
            rotate_left
            · (try dsimp only at hSw); go_simp; try with_reducible rfl
            try simp only [Act.put, List.setIfInBounds_toArray, List.set_cons_zero, List.set_cons_succ]
            refine heldE_take 2 (oi := _) (v := ?_) rfl (by kernel_rfl) (by kernel_rfl) (by kernel_rfl) (by kernel_rfl) (fun _ _ _ h => h) (by rfl) (fun w hSw => ?_) (by assumption) ?_
            rotate_left
            · (try dsimp only at hSw); go_simp; try with_reducible rfl
            try simp only [Act.put, List.setIfInBounds_toArray, List.set_cons_zero, List.set_cons_succ]
            refine heldE_take 3 (oi := _) (v := ?_) rfl (by kernel_rfl) (by kernel_rfl) (by kernel_rfl) (by kernel_rfl) (fun _ _ _ h => h) (by rfl) (fun w hSw => ?_) (by assumption) ?_
            rotate_left
            · (try dsimp only at hSw); go_simp; try with_reducible rfl
            try simp only [Act.put, List.setIfInBounds_toArray, List.set_cons_zero, List.set_cons_succ]
            refine heldE_take 4 (oi := _) (v := ?_) rfl (by kernel_rfl) (by kernel_rfl) (by kernel_rfl) (by kernel_rfl) (fun _ _ _ h => h) (by rfl) (fun w hSw => ?_) (by assumption) ?_
            rotate_left
            · (try dsimp only at hSw); go_simp; try with_reducible rfl
            try simp only [Act.put, List.setIfInBounds_toArray, List.set_cons_zero, List.set_cons_succ]
            refine heldE_take 5 (oi := _) (v := ?_) rfl (by kernel_rfl) (by kernel_rfl) (by kernel_rfl) (by kernel_rfl) (fun _ _ _ h => h) (by rfl) (fun w hSw => ?_) (by assumption) ?_
            rotate_left
            · (try dsimp only at hSw); go_simp; try with_reducible rfl
            try simp only [Act.put, List.setIfInBounds_toArray, List.set_cons_zero, List.set_cons_succ]
            refine heldE_take 6 (oi := _) (v := ?_) rfl (by kernel_rfl) (by kernel_rfl) (by kernel_rfl) (by kernel_rfl) (fun _ _ _ h => h) (by rfl) (fun w hSw => ?_) (by assumption) ?_
            rotate_left
            · (try dsimp only at hSw); go_simp; try with_reducible rfl
            try simp only [Act.put, List.setIfInBounds_toArray, List.set_cons_zero, List.set_cons_succ]
            refine heldE_take 7 (oi := _) (v := ?_) rfl (by kernel_rfl) (by kernel_rfl) (by kernel_rfl) (by kernel_rfl) (fun _ _ _ h => h) (by rfl) (fun w hSw => ?_) (by assumption) ?_
            rotate_left
            · (try dsimp only at hSw); go_simp; try with_reducible rfl
            try simp only [Act.put, List.setIfInBounds_toArray, List.set_cons_zero, List.set_cons_succ]
            refine heldE_take 8 (oi := _) (v := ?_) rfl (by kernel_rfl) (by kernel_rfl) (by kernel_rfl) (by kernel_rfl) (fun _ _ _ h => h) (by rfl) (fun w hSw => ?_) (by assumption) ?_
            rotate_left
            · (try dsimp only at hSw); go_simp; try with_reducible rfl
            try simp only [Act.put, List.setIfInBounds_toArray, List.set_cons_zero, List.set_cons_succ]
            refine heldE_take 9 (oi := _) (v := ?_) rfl (by kernel_rfl) (by kernel_rfl) (by kernel_rfl) (by kernel_rfl) (fun _ _ _ h => h) (by rfl) (fun w hSw => ?_) (by assumption) ?_
            rotate_left
            · (try dsimp only at hSw); go_simp; try with_reducible rfl
            try simp only [Act.put, List.setIfInBounds_toArray, List.set_cons_zero, List.set_cons_succ]
            refine heldE_take 10 (oi := _) (v := ?_) rfl (by kernel_rfl) (by kernel_rfl) (by kernel_rfl) (by kernel_rfl) (fun _ _ _ h => h) (by rfl) (fun w hSw => ?_) (by assumption) ?_
            rotate_left
            · (try dsimp only at hSw); go_simp; try with_reducible rfl
            try simp only [Act.put, List.setIfInBounds_toArray, List.set_cons_zero, List.set_cons_succ]
            refine heldE_take 11 (oi := _) (v := ?_) rfl (by kernel_rfl) (by kernel_rfl) (by kernel_rfl) (by kernel_rfl) (fun _ _ _ h => h) (by rfl) (fun w hSw => ?_) (by assumption) ?_
            rotate_left
            · (try dsimp only at hSw); go_simp; try with_reducible rfl
            try simp only [Act.put, List.setIfInBounds_toArray, List.set_cons_zero, List.set_cons_succ]
            refine heldE_take 12 (oi := _) (v := ?_) rfl (by kernel_rfl) (by kernel_rfl) (by kernel_rfl) (by kernel_rfl) (fun _ _ _ h => h) (by rfl) (fun w hSw => ?_) (by assumption) ?_
            rotate_left
            · (try dsimp only at hSw); go_simp; try with_reducible rfl
            try simp only [Act.put, List.setIfInBounds_toArray, List.set_cons_zero, List.set_cons_succ]
            refine heldE_take 13 (oi := _) (v := ?_) rfl (by kernel_rfl) (by kernel_rfl) (by kernel_rfl) (by kernel_rfl) (fun _ _ _ h => h) (by rfl) (fun w hSw => ?_) (by assumption) ?_
            rotate_left
            · (try dsimp only at hSw); go_simp; try with_reducible rfl
            try simp only [Act.put, List.setIfInBounds_toArray, List.set_cons_zero, List.set_cons_succ]
            refine heldE_take 14 (oi := _) (v := ?_) rfl (by kernel_rfl) (by kernel_rfl) (by kernel_rfl) (by kernel_rfl) (fun _ _ _ h => h) (by rfl) (fun w hSw => ?_) (by assumption) ?_
            rotate_left
            · (try dsimp only at hSw); go_simp; try with_reducible rfl
            try simp only [Act.put, List.setIfInBounds_toArray, List.set_cons_zero, List.set_cons_succ]
            refine heldE_take 15 (oi := _) (v := ?_) rfl (by kernel_rfl) (by kernel_rfl) (by kernel_rfl) (by kernel_rfl) (fun _ _ _ h => h) (by rfl) (fun w hSw => ?_) (by assumption) ?_
            rotate_left
            · (try dsimp only at hSw); go_simp; try with_reducible rfl
            try simp only [Act.put, List.setIfInBounds_toArray, List.set_cons_zero, List.set_cons_succ]
            refine wpAnyE_ready (rs := [16]) (by kernel_rfl) (by simp) ?_
            refine heldE_cons 16 (o := _) rfl (fun KC hKC => ?_) AllReadyE.nil
            go_simp
            first | refine alloc_abs (K := KC _) ?_ | refine alloc_absD (K := KC _) ?_
            intro wS kS hS
            obtain ⟨xb, hxb, hS⟩ := heap_name11 hS
            have TS := Lib.hid (show Kept (fun _ => False) w9 wS from kS)
            have XBL := Lib.hid (show w9.heap.size ≤ xb from Nat.le_of_eq hxb)
            rw [hxb]
            have XB := Lib.hid (two_heap hS)
            have hx0 := XB.out.c0
            have hx1 := XB.out.c1
            have hf0 := XB.out.row.frozen 0
            have hf1 := XB.out.row.frozen 1
            clear kS hS hxb
            refine hKC.out _ _ ?_ (fun hHeld => ?_)
            · exact EX.out _ (K9.out.trans TS.out (fun _ _ e => e))
            clear hKC KC
            try simp only [Act.put, List.setIfInBounds_toArray, List.set_cons_zero, List.set_cons_succ]
            refine wpAnyE_ready (rs := [17]) (by kernel_rfl) (by simp) ?_
            refine heldE_last (o := _) rfl (fun KC hKC => ?_) AllReadyE.nil
            go_simp
            refine hKC.out _ _ ?_
            clear hKC KC
            try simp only [Act.put, List.setIfInBounds_toArray, List.set_cons_zero, List.set_cons_succ]
            refine wpAnyE_done (by kernel_rfl) (NoPanic.normal ?_) _
            generalize hw2 : ((World.setCell wS ⟨xb, 0, none⟩ (Value.string x.key)).setCell ⟨xb, 1, none⟩ (Value.string x.data)) = w2
            have k92 : Kept (fun _ => False) w9 w2 := by
              rw [← hw2]
              exact (TS.out.trans (Kept.one_set wS ⟨xb, 0, none⟩ _) (fun b hb e => by have e : b = xb := e; have := XBL.out; omega)).trans (Kept.one_set _ ⟨xb, 1, none⟩ _) (fun b hb e => by have e : b = xb := e; have := XBL.out; omega)
            have k2 := K9.out.trans k92 (fun _ _ e => e)
            have hxc : w2.cell? ⟨xb, 0, none⟩ = some (.string x.key) ∧ w2.cell? ⟨xb, 1, none⟩ = some (.string x.data) ∧ xb < w2.heap.size := by
              rw [← hw2]
              exact ⟨(cell_set_other _ (by omega)).trans (cell_set_same XB.out.row (by omega) _), cell_set_same (XB.out.row.setCell _ _) (by omega) _, ((XB.out.row.setCell _ _).setCell _ _).lt⟩
            have CX := Lib.hid (show ∀ w', Kept (fun _ => False) w2 w' → w'.cell? ⟨xb, 0, none⟩ = some (.string x.key) ∧ w'.cell? ⟨xb, 1, none⟩ = some (.string x.data) from fun w' kk => ⟨(kk.cell (p := ⟨xb, 0, none⟩) hxc.2.2 (fun e => e)).trans hxc.1, (kk.cell (p := ⟨xb, 1, none⟩) hxc.2.2 (fun e => e)).trans hxc.2.1⟩)
            have HH := Lib.hid (pair_holds (ownsRow_kept R.out.1 k2 (fun _ _ e => e)) AB.out.2.1 (by rw [AB.out.2.2]; omega))
            have K2 := Lib.hid k2
            first | (have HH1 := Lib.hid (pair_holds1 (ownsRow_kept R.out.1 k2 (fun _ _ e => e)) AB.out.2.1 (by rw [AB.out.2.2]; omega)); skip) | skip
            have H0 := Lib.hid (fun (hz : (t' + 1) = 0) => pair_holds0 (ownsRow_kept R.out.1 k2 (fun _ _ e => e)) (AB.out.2.1.trans hz))
            have hJ0 : (0 : Int) ≤ (t' : Int) + 1 := by omega
            have hJ1 : (t' : Int) + 1 ≤ (sc : Int) := by omega
            have hJ2 : (t' : Int) + 1 ≤ (i : Int) := by omega
            have hsub : i - (t' + 1) = nb := by omega
            have hix := hxc.1
            have hix1 := hxc.2.1
            have hnb : nb ≤ 1024 := by omega
            clear hw2 k92 k2 hxc hx0 hx1 hf0 hf1
            go_wp2_with fail
            refine wp_region_heldE 12 (S := fun w' => w'.cell? ⟨xb, 0, none⟩ = some (.string x.key) ∧ w'.cell? ⟨xb, 1, none⟩ = some (.string x.data)) (by kernel_rfl) ?_ (fun hHeld => ?_)
            · exact CX.out _ ((Kept.refl (fun _ => False) w2).drew)
            refine heldE_take 1 (oi := _) (v := ?_) rfl (by kernel_rfl) (by kernel_rfl) (by kernel_rfl) (by kernel_rfl) (fun _ _ _ h => h) (by rfl) (fun w hSw => ?_) (by assumption) ?_
            rotate_left
            · (try dsimp only at hSw); go_simp; try with_reducible rfl
            try simp only [Act.put, List.setIfInBounds_toArray, List.set_cons_zero, List.set_cons_succ]
            refine heldE_take 2 (oi := _) (v := ?_) rfl (by kernel_rfl) (by kernel_rfl) (by kernel_rfl) (by kernel_rfl) (fun _ _ _ h => h) (by rfl) (fun w hSw => ?_) (by assumption) ?_
            rotate_left
            · (try dsimp only at hSw); go_simp; try with_reducible rfl
            try simp only [Act.put, List.setIfInBounds_toArray, List.set_cons_zero, List.set_cons_succ]
            refine heldE_take 3 (oi := _) (v := ?_) rfl (by kernel_rfl) (by kernel_rfl) (by kernel_rfl) (by kernel_rfl) (fun _ _ _ h => h) (by rfl) (fun w hSw => ?_) (by assumption) ?_
            rotate_left
            · (try dsimp only at hSw); go_simp; try with_reducible rfl
            try simp only [Act.put, List.setIfInBounds_toArray, List.set_cons_zero, List.set_cons_succ]
            refine heldE_take 5 (oi := _) (v := ?_) rfl (by kernel_rfl) (by kernel_rfl) (by kernel_rfl) (by kernel_rfl) (fun _ _ _ h => h) (by rfl) (fun w hSw => ?_) (by assumption) ?_
            rotate_left
            · (try dsimp only at hSw); go_simp; try with_reducible rfl
            try simp only [Act.put, List.setIfInBounds_toArray, List.set_cons_zero, List.set_cons_succ]
            refine heldE_take 8 (oi := _) (v := ?_) rfl (by kernel_rfl) (by kernel_rfl) (by kernel_rfl) (by kernel_rfl) (fun _ _ _ h => h) (by rfl) (fun w hSw => ?_) (by assumption) ?_
            rotate_left
            · (try dsimp only at hSw); go_simp; try with_reducible rfl
            try simp only [Act.put, List.setIfInBounds_toArray, List.set_cons_zero, List.set_cons_succ]
            refine heldE_take 9 (oi := _) (v := ?_) rfl (by kernel_rfl) (by kernel_rfl) (by kernel_rfl) (by kernel_rfl) (fun _ _ _ h => h) (by rfl) (fun w hSw => ?_) (by assumption) ?_
            rotate_left
            · (try dsimp only at hSw); go_simp; try with_reducible rfl
            try simp only [Act.put, List.setIfInBounds_toArray, List.set_cons_zero, List.set_cons_succ]
            refine heldE_take 10 (oi := _) (v := ?_) rfl (by kernel_rfl) (by kernel_rfl) (by kernel_rfl) (by kernel_rfl) (fun _ _ _ h => h) (by rfl) (fun w hSw => ?_) (by assumption) ?_
            rotate_left
            · (try dsimp only at hSw); go_simp; try with_reducible rfl
            try simp only [Act.put, List.setIfInBounds_toArray, List.set_cons_zero, List.set_cons_succ]
            refine wpAnyE_ready (rs := [0, 6]) (by kernel_rfl) (by simp) ?_
            refine heldE_cons 0 (o := _) rfl (fun KC hKC => ?_) (heldE_cons 6 (o := _) rfl (fun KC hKC => ?_) AllReadyE.nil)
            ·
              go_simp
              first | refine alloc_abs (K := KC _) ?_ | refine alloc_absD (K := KC _) ?_
              intro wE kE hE
              have TE := Lib.hid (show Kept (fun _ => False) w2 wE from by first | exact TY.out.trans kE (fun _ _ e => e) | exact kE)
              have FE := Lib.hid (by first | exact own_fresh (n := 0) (c := 0) TY.out.size | exact own_fresh (n := 0) (c := 0) (Nat.le_refl w2.heap.size))
              have KE := Lib.hid kE
              have HE := Lib.hid hE
              clear kE hE
              refine hKC.out _ _ ?_ (fun hHeld => ?_)
              · first | exact CX.out _ T18.out | exact CX.out _ T11.out | exact CX.out _ TY.out | exact CX.out _ TE.out | exact CX.out _ T8.out
              clear hKC KC
              try simp only [Act.put, List.setIfInBounds_toArray, List.set_cons_zero, List.set_cons_succ]
              refine wpAnyE_ready (rs := [4, 6]) (by kernel_rfl) (by simp) ?_
              refine heldE_cons 4 (o := _) rfl (fun KC hKC => ?_) (heldE_cons 6 (o := _) rfl (fun KC hKC => ?_) AllReadyE.nil)
              ·
                refine step_append_mine rfl (.tmp 55) (.tmp 58) rpairE rfl rfl (by first | exact own_empty_at HE.out | exact own_empty_at (kept_block KY.out HE.out)) _ (t' + 1) _ (prV A) rfl (by rw [prV_len, AB.out.2.1]) (by first | exact (HH.out _ TE.out).1 | exact (HH.out _ TY.out).1) (prV_one A) (by unfold maxLen; omega) (by omega) ?_
                intro a1 c1 w8 o8 k8 b8
                rw [Nat.zero_add] at o8 b8
                simp only [List.nil_append] at o8
                have T8 := Lib.hid (show Kept (fun _ => False) w2 w8 from by first | exact kept_own TE.out FE.out k8 | exact kept_own TY.out FE.out k8)
                have F8 := Lib.hid (by first | exact own_or FE.out TE.out.size b8 | exact own_or FE.out TY.out.size b8)
                have K8 := Lib.hid k8
                have O8 := Lib.hid o8
                clear o8 k8 b8
                try simp only [Nat.zero_add]
                refine hKC.out _ _ ?_ (fun hHeld => ?_)
                · first | exact CX.out _ T18.out | exact CX.out _ T11.out | exact CX.out _ TY.out | exact CX.out _ TE.out | exact CX.out _ T8.out
                clear hKC KC
                try simp only [Act.put, List.setIfInBounds_toArray, List.set_cons_zero, List.set_cons_succ]
                refine wpAnyE_ready (rs := [6]) (by kernel_rfl) (by simp) ?_
                refine heldE_cons 6 (o := _) rfl (fun KC hKC => ?_) AllReadyE.nil
                go_simp
                first | refine alloc_abs (K := KC _) ?_ | refine alloc_absD (K := KC _) ?_
                intro wY kY hY
                have TY := Lib.hid (show Kept (fun _ => False) w2 wY from by first | exact T8.out.trans kY (fun _ _ e => e) | exact TE.out.trans kY (fun _ _ e => e) | exact kY)
                have KY := Lib.hid kY
                have HY := Lib.hid hY
                clear kY hY
                refine hKC.out _ _ ?_ (fun hHeld => ?_)
                · first | exact CX.out _ T18.out | exact CX.out _ T11.out | exact CX.out _ TY.out | exact CX.out _ TE.out | exact CX.out _ T8.out
                clear hKC KC
                try simp only [Act.put, List.setIfInBounds_toArray, List.set_cons_zero, List.set_cons_succ]
                refine wpAnyE_ready (rs := [7]) (by kernel_rfl) (by simp) ?_
                refine heldE_cons 7 (o := _) rfl (fun KC hKC => ?_) AllReadyE.nil
                refine step_append_mine rfl (.tmp 59) (.tmp 61) rpairE rfl rfl (by first | exact ownsRow_kept O8.out KY.out (fun _ _ e => e) | exact O8.out) (some ⟨_, 0, none⟩) 1 1 [.string x.key, .string x.data] rfl rfl (by first | exact holds_block HY.out | exact hold_two (kept_block KY.out HE.out) HY.out K8.out | exact hold_two HE.out (kept_block KE.out HY.out) K8.out) (by simp [Value.oneCell']) (by unfold maxLen; omega) (by omega) ?_
                intro a3 c3 w11 o11 k11 b11
                have T11 := Lib.hid (show Kept (fun _ => False) w2 w11 from by first | exact kept_own T8.out F8.out k11 | exact kept_own TY.out F8.out k11)
                have F11 := Lib.hid (by first | exact own_or F8.out T8.out.size b11 | exact own_or F8.out TY.out.size b11)
                have O11 := Lib.hid o11
                clear o11 k11 b11
                refine hKC.out _ _ ?_ (fun hHeld => ?_)
                · first | exact CX.out _ T18.out | exact CX.out _ T11.out | exact CX.out _ TY.out | exact CX.out _ TE.out | exact CX.out _ T8.out
                clear hKC KC
                try simp only [Act.put, List.setIfInBounds_toArray, List.set_cons_zero, List.set_cons_succ]
                refine wpAnyE_ready (rs := [11]) (by kernel_rfl) (by simp) ?_
                refine heldE_cons 11 (o := _) rfl (fun KC hKC => ?_) AllReadyE.nil
                refine step_append_mine rfl (.tmp 62) (.tmp 65) rpairE rfl rfl O11.out _ (nb) _ (prV B) rfl (by rw [prV_len, AB.out.2.2]; try omega) (by first | exact (HH.out _ T11.out).2 | exact H0.out (by first | rfl | trivial) _ T11.out | exact (HH1.out _ T11.out)) (prV_one B) (by unfold maxLen; omega) (by omega) ?_
                intro a5 c5 w18 o18 k18 b18
                have T18 := Lib.hid (kept_own T11.out F11.out k18)
                have F18 := Lib.hid (own_or F11.out T11.out.size b18)
                have O18 := Lib.hid o18
                clear o18 k18 b18
                refine hKC.out _ _ ?_ (fun hHeld => ?_)
                · first | exact CX.out _ T18.out | exact CX.out _ T11.out | exact CX.out _ TY.out | exact CX.out _ TE.out | exact CX.out _ T8.out
                clear hKC KC
                try simp only [Act.put, List.setIfInBounds_toArray, List.set_cons_zero, List.set_cons_succ]
                refine wpAnyE_ready (rs := [12]) (by kernel_rfl) (by simp) ?_
                refine heldE_last (o := _) rfl (fun KC hKC => ?_) AllReadyE.nil
                go_simp
                refine hKC.out _ _ ?_
                clear hKC KC
                try simp only [Act.put, List.setIfInBounds_toArray, List.set_cons_zero, List.set_cons_succ]
                refine wpAnyE_done (by kernel_rfl) (NoPanic.normal ?_) _
                have o18 := O18.out
                have hJN : t' + 1 + 1 + nb = i + 1 := by omega
                rw [hJN] at o18
                have F18' := F18.out
                try simp only [Nat.zero_add] at F18'
                rw [show prV A ++ [.string x.key, .string x.data] ++ prV B = prV (A ++ (x.key, x.data) :: B) from by rw [prV_append, List.append_assoc]; rfl, ← R.out.2.2.2] at o18
                have OO := Lib.hid (And.intro o18 F18')
                clear o18 F18' hsub hix hix1 hnb hJN
                go_wp2_with fail
                go_roundw
                case rel =>
                  refine ⟨i + 1, a5, c5, by omega, by go_num, by congr 1; omega, OO.out.1, fun b e => ?_, (R.out.2.2.1.trans K2.out (fun _ _ e => e)).trans T18.out (fun _ _ e => e)⟩
                  have h1 := OO.out.2 b (own_len11 e)
                  have h2 := ((O0.out.2.trans O1.out.2.2 (fun _ _ e => e)).trans (R.out.2.2.1.trans K2.out (fun _ _ e => e)) (fun _ _ e => e)).size
                  omega
                case measure => (simp [intOf] <;> omega)
              ·
                go_simp
                first | refine alloc_abs (K := KC _) ?_ | refine alloc_absD (K := KC _) ?_
                intro wY kY hY
                have TY := Lib.hid (show Kept (fun _ => False) w2 wY from by first | exact T8.out.trans kY (fun _ _ e => e) | exact TE.out.trans kY (fun _ _ e => e) | exact kY)
                have KY := Lib.hid kY
                have HY := Lib.hid hY
                clear kY hY
                refine hKC.out _ _ ?_ (fun hHeld => ?_)
                · first | exact CX.out _ T18.out | exact CX.out _ T11.out | exact CX.out _ TY.out | exact CX.out _ TE.out | exact CX.out _ T8.out
                clear hKC KC
                try simp only [Act.put, List.setIfInBounds_toArray, List.set_cons_zero, List.set_cons_succ]
                refine wpAnyE_ready (rs := [4]) (by kernel_rfl) (by simp) ?_
                refine heldE_cons 4 (o := _) rfl (fun KC hKC => ?_) AllReadyE.nil
                refine step_append_mine rfl (.tmp 55) (.tmp 58) rpairE rfl rfl (by first | exact own_empty_at HE.out | exact own_empty_at (kept_block KY.out HE.out)) _ (t' + 1) _ (prV A) rfl (by rw [prV_len, AB.out.2.1]) (by first | exact (HH.out _ TE.out).1 | exact (HH.out _ TY.out).1) (prV_one A) (by unfold maxLen; omega) (by omega) ?_
                intro a1 c1 w8 o8 k8 b8
                rw [Nat.zero_add] at o8 b8
                simp only [List.nil_append] at o8
                have T8 := Lib.hid (show Kept (fun _ => False) w2 w8 from by first | exact kept_own TE.out FE.out k8 | exact kept_own TY.out FE.out k8)
                have F8 := Lib.hid (by first | exact own_or FE.out TE.out.size b8 | exact own_or FE.out TY.out.size b8)
                have K8 := Lib.hid k8
                have O8 := Lib.hid o8
                clear o8 k8 b8
                try simp only [Nat.zero_add]
                refine hKC.out _ _ ?_ (fun hHeld => ?_)
                · first | exact CX.out _ T18.out | exact CX.out _ T11.out | exact CX.out _ TY.out | exact CX.out _ TE.out | exact CX.out _ T8.out
                clear hKC KC
                try simp only [Act.put, List.setIfInBounds_toArray, List.set_cons_zero, List.set_cons_succ]
                refine wpAnyE_ready (rs := [7]) (by kernel_rfl) (by simp) ?_
                refine heldE_cons 7 (o := _) rfl (fun KC hKC => ?_) AllReadyE.nil
                refine step_append_mine rfl (.tmp 59) (.tmp 61) rpairE rfl rfl (by first | exact ownsRow_kept O8.out KY.out (fun _ _ e => e) | exact O8.out) (some ⟨_, 0, none⟩) 1 1 [.string x.key, .string x.data] rfl rfl (by first | exact holds_block HY.out | exact hold_two (kept_block KY.out HE.out) HY.out K8.out | exact hold_two HE.out (kept_block KE.out HY.out) K8.out) (by simp [Value.oneCell']) (by unfold maxLen; omega) (by omega) ?_
                intro a3 c3 w11 o11 k11 b11
                have T11 := Lib.hid (show Kept (fun _ => False) w2 w11 from by first | exact kept_own T8.out F8.out k11 | exact kept_own TY.out F8.out k11)
                have F11 := Lib.hid (by first | exact own_or F8.out T8.out.size b11 | exact own_or F8.out TY.out.size b11)
                have O11 := Lib.hid o11
                clear o11 k11 b11
                refine hKC.out _ _ ?_ (fun hHeld => ?_)
                · first | exact CX.out _ T18.out | exact CX.out _ T11.out | exact CX.out _ TY.out | exact CX.out _ TE.out | exact CX.out _ T8.out
                clear hKC KC
                try simp only [Act.put, List.setIfInBounds_toArray, List.set_cons_zero, List.set_cons_succ]
                refine wpAnyE_ready (rs := [11]) (by kernel_rfl) (by simp) ?_
                refine heldE_cons 11 (o := _) rfl (fun KC hKC => ?_) AllReadyE.nil
                refine step_append_mine rfl (.tmp 62) (.tmp 65) rpairE rfl rfl O11.out _ (nb) _ (prV B) rfl (by rw [prV_len, AB.out.2.2]; try omega) (by first | exact (HH.out _ T11.out).2 | exact H0.out (by first | rfl | trivial) _ T11.out | exact (HH1.out _ T11.out)) (prV_one B) (by unfold maxLen; omega) (by omega) ?_
                intro a5 c5 w18 o18 k18 b18
                have T18 := Lib.hid (kept_own T11.out F11.out k18)
                have F18 := Lib.hid (own_or F11.out T11.out.size b18)
                have O18 := Lib.hid o18
                clear o18 k18 b18
                refine hKC.out _ _ ?_ (fun hHeld => ?_)
                · first | exact CX.out _ T18.out | exact CX.out _ T11.out | exact CX.out _ TY.out | exact CX.out _ TE.out | exact CX.out _ T8.out
                clear hKC KC
                try simp only [Act.put, List.setIfInBounds_toArray, List.set_cons_zero, List.set_cons_succ]
                refine wpAnyE_ready (rs := [12]) (by kernel_rfl) (by simp) ?_
                refine heldE_last (o := _) rfl (fun KC hKC => ?_) AllReadyE.nil
                go_simp
                refine hKC.out _ _ ?_
                clear hKC KC
                try simp only [Act.put, List.setIfInBounds_toArray, List.set_cons_zero, List.set_cons_succ]
                refine wpAnyE_done (by kernel_rfl) (NoPanic.normal ?_) _
                have o18 := O18.out
                have hJN : t' + 1 + 1 + nb = i + 1 := by omega
                rw [hJN] at o18
                have F18' := F18.out
                try simp only [Nat.zero_add] at F18'
                rw [show prV A ++ [.string x.key, .string x.data] ++ prV B = prV (A ++ (x.key, x.data) :: B) from by rw [prV_append, List.append_assoc]; rfl, ← R.out.2.2.2] at o18
                have OO := Lib.hid (And.intro o18 F18')
                clear o18 F18' hsub hix hix1 hnb hJN
                go_wp2_with fail
                go_roundw
                case rel =>
                  refine ⟨i + 1, a5, c5, by omega, by go_num, by congr 1; omega, OO.out.1, fun b e => ?_, (R.out.2.2.1.trans K2.out (fun _ _ e => e)).trans T18.out (fun _ _ e => e)⟩
                  have h1 := OO.out.2 b (own_len11 e)
                  have h2 := ((O0.out.2.trans O1.out.2.2 (fun _ _ e => e)).trans (R.out.2.2.1.trans K2.out (fun _ _ e => e)) (fun _ _ e => e)).size
                  omega
                case measure => (simp [intOf] <;> omega)
            ·
              go_simp
              first | refine alloc_abs (K := KC _) ?_ | refine alloc_absD (K := KC _) ?_
              intro wY kY hY
              have TY := Lib.hid (show Kept (fun _ => False) w2 wY from by first | exact T8.out.trans kY (fun _ _ e => e) | exact TE.out.trans kY (fun _ _ e => e) | exact kY)
              have KY := Lib.hid kY
              have HY := Lib.hid hY
              clear kY hY
              refine hKC.out _ _ ?_ (fun hHeld => ?_)
              · first | exact CX.out _ T18.out | exact CX.out _ T11.out | exact CX.out _ TY.out | exact CX.out _ TE.out | exact CX.out _ T8.out
              clear hKC KC
              try simp only [Act.put, List.setIfInBounds_toArray, List.set_cons_zero, List.set_cons_succ]
              refine wpAnyE_ready (rs := [0]) (by kernel_rfl) (by simp) ?_
              refine heldE_cons 0 (o := _) rfl (fun KC hKC => ?_) AllReadyE.nil
              go_simp
              first | refine alloc_abs (K := KC _) ?_ | refine alloc_absD (K := KC _) ?_
              intro wE kE hE
              have TE := Lib.hid (show Kept (fun _ => False) w2 wE from by first | exact TY.out.trans kE (fun _ _ e => e) | exact kE)
              have FE := Lib.hid (by first | exact own_fresh (n := 0) (c := 0) TY.out.size | exact own_fresh (n := 0) (c := 0) (Nat.le_refl w2.heap.size))
              have KE := Lib.hid kE
              have HE := Lib.hid hE
              clear kE hE
              refine hKC.out _ _ ?_ (fun hHeld => ?_)
              · first | exact CX.out _ T18.out | exact CX.out _ T11.out | exact CX.out _ TY.out | exact CX.out _ TE.out | exact CX.out _ T8.out
              clear hKC KC
              try simp only [Act.put, List.setIfInBounds_toArray, List.set_cons_zero, List.set_cons_succ]
              refine wpAnyE_ready (rs := [4]) (by kernel_rfl) (by simp) ?_
              refine heldE_cons 4 (o := _) rfl (fun KC hKC => ?_) AllReadyE.nil
              refine step_append_mine rfl (.tmp 55) (.tmp 58) rpairE rfl rfl (by first | exact own_empty_at HE.out | exact own_empty_at (kept_block KY.out HE.out)) _ (t' + 1) _ (prV A) rfl (by rw [prV_len, AB.out.2.1]) (by first | exact (HH.out _ TE.out).1 | exact (HH.out _ TY.out).1) (prV_one A) (by unfold maxLen; omega) (by omega) ?_
              intro a1 c1 w8 o8 k8 b8
              rw [Nat.zero_add] at o8 b8
              simp only [List.nil_append] at o8
              have T8 := Lib.hid (show Kept (fun _ => False) w2 w8 from by first | exact kept_own TE.out FE.out k8 | exact kept_own TY.out FE.out k8)
              have F8 := Lib.hid (by first | exact own_or FE.out TE.out.size b8 | exact own_or FE.out TY.out.size b8)
              have K8 := Lib.hid k8
              have O8 := Lib.hid o8
              clear o8 k8 b8
              try simp only [Nat.zero_add]
              refine hKC.out _ _ ?_ (fun hHeld => ?_)
              · first | exact CX.out _ T18.out | exact CX.out _ T11.out | exact CX.out _ TY.out | exact CX.out _ TE.out | exact CX.out _ T8.out
              clear hKC KC
              try simp only [Act.put, List.setIfInBounds_toArray, List.set_cons_zero, List.set_cons_succ]
              refine wpAnyE_ready (rs := [7]) (by kernel_rfl) (by simp) ?_
              refine heldE_cons 7 (o := _) rfl (fun KC hKC => ?_) AllReadyE.nil
              refine step_append_mine rfl (.tmp 59) (.tmp 61) rpairE rfl rfl (by first | exact ownsRow_kept O8.out KY.out (fun _ _ e => e) | exact O8.out) (some ⟨_, 0, none⟩) 1 1 [.string x.key, .string x.data] rfl rfl (by first | exact holds_block HY.out | exact hold_two (kept_block KY.out HE.out) HY.out K8.out | exact hold_two HE.out (kept_block KE.out HY.out) K8.out) (by simp [Value.oneCell']) (by unfold maxLen; omega) (by omega) ?_
              intro a3 c3 w11 o11 k11 b11
              have T11 := Lib.hid (show Kept (fun _ => False) w2 w11 from by first | exact kept_own T8.out F8.out k11 | exact kept_own TY.out F8.out k11)
              have F11 := Lib.hid (by first | exact own_or F8.out T8.out.size b11 | exact own_or F8.out TY.out.size b11)
              have O11 := Lib.hid o11
              clear o11 k11 b11
              refine hKC.out _ _ ?_ (fun hHeld => ?_)
              · first | exact CX.out _ T18.out | exact CX.out _ T11.out | exact CX.out _ TY.out | exact CX.out _ TE.out | exact CX.out _ T8.out
              clear hKC KC
              try simp only [Act.put, List.setIfInBounds_toArray, List.set_cons_zero, List.set_cons_succ]
              refine wpAnyE_ready (rs := [11]) (by kernel_rfl) (by simp) ?_
              refine heldE_cons 11 (o := _) rfl (fun KC hKC => ?_) AllReadyE.nil
              refine step_append_mine rfl (.tmp 62) (.tmp 65) rpairE rfl rfl O11.out _ (nb) _ (prV B) rfl (by rw [prV_len, AB.out.2.2]; try omega) (by first | exact (HH.out _ T11.out).2 | exact H0.out (by first | rfl | trivial) _ T11.out | exact (HH1.out _ T11.out)) (prV_one B) (by unfold maxLen; omega) (by omega) ?_
              intro a5 c5 w18 o18 k18 b18
              have T18 := Lib.hid (kept_own T11.out F11.out k18)
              have F18 := Lib.hid (own_or F11.out T11.out.size b18)
              have O18 := Lib.hid o18
              clear o18 k18 b18
              refine hKC.out _ _ ?_ (fun hHeld => ?_)
              · first | exact CX.out _ T18.out | exact CX.out _ T11.out | exact CX.out _ TY.out | exact CX.out _ TE.out | exact CX.out _ T8.out
              clear hKC KC
              try simp only [Act.put, List.setIfInBounds_toArray, List.set_cons_zero, List.set_cons_succ]
              refine wpAnyE_ready (rs := [12]) (by kernel_rfl) (by simp) ?_
              refine heldE_last (o := _) rfl (fun KC hKC => ?_) AllReadyE.nil
              go_simp
              refine hKC.out _ _ ?_
              clear hKC KC
              try simp only [Act.put, List.setIfInBounds_toArray, List.set_cons_zero, List.set_cons_succ]
              refine wpAnyE_done (by kernel_rfl) (NoPanic.normal ?_) _
              have o18 := O18.out
              have hJN : t' + 1 + 1 + nb = i + 1 := by omega
              rw [hJN] at o18
              have F18' := F18.out
              try simp only [Nat.zero_add] at F18'
              rw [show prV A ++ [.string x.key, .string x.data] ++ prV B = prV (A ++ (x.key, x.data) :: B) from by rw [prV_append, List.append_assoc]; rfl, ← R.out.2.2.2] at o18
              have OO := Lib.hid (And.intro o18 F18')
              clear o18 F18' hsub hix hix1 hnb hJN
              go_wp2_with fail
              go_roundw
              case rel =>
                refine ⟨i + 1, a5, c5, by omega, by go_num, by congr 1; omega, OO.out.1, fun b e => ?_, (R.out.2.2.1.trans K2.out (fun _ _ e => e)).trans T18.out (fun _ _ e => e)⟩
                have h1 := OO.out.2 b (own_len11 e)
                have h2 := ((O0.out.2.trans O1.out.2.2 (fun _ _ e => e)).trans (R.out.2.2.1.trans K2.out (fun _ _ e => e)) (fun _ _ e => e)).size
                omega
              case measure => (simp [intOf] <;> omega)
    · obtain rfl : i = n := by omega
      have hall : (kvs E).take i = kvs E := by rw [← HN.out, ← kvs_len, List.take_length]
      have hlen : (pairsP (kvs E)).length = i := by rw [pairsP_len, kvs_len, HN.out]
      rw [hall] at hrow
      have FIN := Lib.hid (And.intro (And.intro hrow hfr) (And.intro ((O0.out.2.trans O1.out.2.2 (fun _ _ e => e)).trans hkr (fun _ _ e => e)) hlen))
      clear hall hlen hrow hfr hkr
      go_wp2_with fail
      go_ret
      obtain ⟨⟨h1, h2⟩, h3, h4⟩ := FIN.out
      refine ⟨.slice sa i sc, rfl, ?_, h2, h3⟩
      rw [h4]
      exact h1
end Go.Proofs.YtjkgimloafpipaaGreat
