/- ScanUnlike, walked. -/
import Derived.Test.YtjkgimloafpipaaGreatSizesWalk
import Derived.Test.YtjkgimloafpipaaGreatCount
import Derived.Test.YtjkgimloafpipaaGreatKeysStopsWalk
import Derived.Test.YtjkgimloafpipaaGreatWorlds
import Derived.Test.YtjkgimloafpipaaGreatHeld
namespace Go.Proofs.YtjkgimloafpipaaGreat
set_option linter.unusedVariables false
set_option linter.unusedSimpArgs false
open Go.RowKit Go.MapKept Go.Deep

theorem textU : Elem Tryz.prog 40 9 (.string ⟨#[]⟩) 1 16 := ⟨Tryz.underlying40, by kernel_rfl, rfl, by omega⟩
theorem kvs_snoc (pre : List En) (x : En) : kvs (pre ++ [x]) = kvs pre ++ [(x.key, x.data)] := by unfold kvs; rw [List.map_append]; rfl
theorem prV_snoc (A : List Pr) (p : Pr) : prV (A ++ [p]) = prV A ++ [.string p.1, .string p.2] := by rw [prV_append]; rfl
/-- Are the pairs that were told (R) the first ones of Q1, and are there as many in all? -/
def smB (Q1 : List Pr) (NU : Nat) (R : List Pr) : Bool := decide (Q1.length = NU ∧ R = Q1.take R.length)
theorem smB_nil (Q1 : List Pr) (NU : Nat) : smB Q1 NU [] = decide (Q1.length = NU) := by unfold smB; simp
theorem smB_step {Q1 R : List Pr} {NU : Nat} {p : Pr} (h : R.length < NU) : smB Q1 NU (R ++ [p]) = (smB Q1 NU R && decide (Q1[R.length]? = some p)) := by
  unfold smB
  rw [← Bool.decide_and]
  refine decide_eq_decide.2 ⟨fun ⟨h1, h2⟩ => ?_, fun ⟨⟨h1, h2⟩, h3⟩ => ⟨h1, ?_⟩⟩
  · rw [List.length_append, List.length_singleton] at h2
    obtain ⟨q, hq⟩ : ∃ q, Q1[R.length]? = some q := ⟨_, List.getElem?_eq_getElem (by omega)⟩
    rw [take_snoc' hq] at h2
    have h4 := List.append_inj h2 (by rw [List.length_take]; omega)
    have h5 : p = q := by simpa using h4.2
    exact ⟨⟨h1, h4.1⟩, by rw [hq, h5]⟩
  · rw [List.length_append, List.length_singleton, take_snoc' h3, ← h2]
theorem smB_true {Q1 R : List Pr} {NU : Nat} (h : smB Q1 NU R = true) (hl : R.length < NU) : ∃ q, Q1[R.length]? = some q ∧ Q1.length = NU := by
  have := (of_decide_eq_true h).1
  exact ⟨_, List.getElem?_eq_getElem (by omega), this⟩
theorem smB_all {Q1 R : List Pr} {NU : Nat} (h : R.length = NU) : smB Q1 NU R = decide (Q1 = R) := by
  unfold smB
  refine decide_eq_decide.2 ⟨fun ⟨h1, h2⟩ => ?_, fun e => ⟨by rw [e]; exact h, by rw [e, List.take_length]⟩⟩
  rw [h, ← h1, List.take_length] at h2
  exact h2.symm
/-- What the rounds of the second range know. -/
def SmI (ib sb : Nat) (Q1 : List Pr) (NU : Nat) (R : List Pr) (U : Nat → Prop) (W : World) : Prop := Box W ib (.int .i64 ((R.length * 2 : Nat) : Int)) ∧ Box W sb (.bool (smB Q1 NU R)) ∧ U ib ∧ U sb ∧ ib ≠ sb
theorem SmI.kept {ib sb NU : Nat} {Q1 R : List Pr} {U : Nat → Prop} {W W' : World} (h : SmI ib sb Q1 NU R U W) (q : Kept (fun b => ¬ U b) W W') : SmI ib sb Q1 NU R U W' := ⟨h.1.kept q (fun e => e h.2.2.1), h.2.1.kept q (fun e => e h.2.2.2.1), h.2.2⟩
theorem pair_dec (a b : Pr) : decide (some a = some b) = (decide (a.1 = b.1) && decide (a.2 = b.2)) := by
  rw [← Bool.decide_and]
  refine decide_eq_decide.2 ⟨fun e => ?_, fun ⟨h1, h2⟩ => ?_⟩
  · rw [Option.some.inj e]
    exact ⟨rfl, rfl⟩
  · rw [Prod.ext h1 h2]
theorem heap_name {w wS : World} {o : Obj} (hS : wS.heap[w.heap.size]? = some o) : ∃ sb, w.heap.size = sb ∧ wS.heap[sb]? = some o := ⟨_, rfl, hS⟩
theorem box_heap {w : World} {b : Nat} {v : Value} {t : TypeId} (h : w.heap[b]? = some (.cells #[v] t (0, 0))) : Box w b v := by
  refine ⟨⟨_, _, h, rfl⟩, ?_⟩
  simp only [World.cell?, h]
  rfl
set_option maxRecDepth 100000 in
set_option maxHeartbeats 4000000 in
theorem scanUnlike_any (kind key value most : Int) (a : Option Addr) (n c : Nat) (ss : Nat → Pr) (a' : Option Addr) (n' c' : Nat) (ss' : Nat → Pr) (W : World) (hs : Puts W a n ss) (hn : n ≤ 9223372036854775807) (hs' : Puts W a' n' ss') (hn' : n' ≤ 9223372036854775807) :
    Calls Tryz.prog 4 #[.int .i64 kind, .int .i64 key, .int .i64 value, .int .i64 most, .slice a n c, .slice a' n' c'] W fun e w' => e = .returned (.bool true) ∧ Kept (fun _ => False) W w' := by
  have HS := Lib.hid (And.intro hs hs')
  clear hs hs'
  refine callsIn_WR (ro := none) (n := 0).1 (callsIn_of_wp_marks Tryz.func4 rfl trivial ?_ rfl)
  simp only [Tryz.ntmps4, List.size_toArray, List.length_cons, List.length_nil, Nat.reduceAdd, Nat.reduceSub, Array.replicate_succ, Array.replicate_zero, List.push_toArray, List.append_toArray, List.nil_append, List.cons_append]
  gi_wp2_with fail
  refine callsIn_WR.2 ((shown_any W).mono ?_)
  rintro e w1 ⟨rfl, k1⟩
  have K1 := Lib.hid k1
  have PUT := Lib.hid (show ∀ w, Kept (fun _ => False) W w → Puts w a n ss ∧ Puts w a' n' ss' from fun w k => ⟨fun i hi => by
    obtain ⟨b, o, e, hb, hp⟩ := HS.out.1 i hi
    exact ⟨b, o, e, Nat.lt_of_lt_of_le hb k.size, hp.kept hb k (fun e => e)⟩, fun i hi => by
    obtain ⟨b, o, e, hb, hp⟩ := HS.out.2 i hi
    exact ⟨b, o, e, Nat.lt_of_lt_of_le hb k.size, hp.kept hb k (fun e => e)⟩⟩)
  have MD := Lib.hid (made11_any kind key value most a n c ss w1 (PUT.out w1 k1).1 hn)
  clear k1
  gi_wp2_with fail
  refine callsIn_WR.2 (MD.out.mono ?_)
  rintro e w2 ⟨bt, br, P, rfl, hd⟩
  have D1 := Lib.hid (And.intro hd (K1.out.trans hd.back (fun _ _ e => e)))
  clear MD hd
  have MD := Lib.hid (made11_any kind key value most a' n' c' ss' w2 (PUT.out w2 D1.out.2).2 hn')
  gi_wp2_with fail
  refine callsIn_WR.2 (MD.out.mono ?_)
  rintro e w3 ⟨bu, bs, Q, rfl, hd⟩
  have hmr := (small_right kind key value most)
  generalize smallM kind key value most = m at hd hmr D1
  obtain ⟨Ft, Fr, hses, -, -, hfl⟩ := D1.out.1.ex
  obtain ⟨Fu, Fv, hses2, -, -, hfl2⟩ := hd.ex
  have ST := Lib.hid (show Ses m bt P Ft w3 ∧ (∀ b, Ft b → w1.heap.size ≤ b ∧ b < w2.heap.size) from ⟨hses.keep hd.back, fun b hb => by have := hfl b (.inl hb); exact ⟨this.1, this.2.1⟩⟩)
  have SU := Lib.hid (show Ses m bu Q Fu w3 ∧ (∀ b, Fu b → w2.heap.size ≤ b ∧ b < w3.heap.size) from ⟨hses2, fun b hb => by have := hfl2 b (.inl hb); exact ⟨this.1, this.2.1⟩⟩)
  have KW3 := Lib.hid (And.intro (D1.out.2.trans hd.back (fun _ _ e => e)) hd.back.size)
  have HMR := Lib.hid hmr
  clear MD hd hses hses2 hfl hfl2 hmr D1
  gi_wp2_with fail
  obtain ⟨ab, hab⟩ : ∃ ab, w3.heap.size = ab := ⟨_, rfl⟩
  obtain ⟨w4, hw4⟩ : ∃ w4, w3.alloc (.cells #[.slice none 0 0] 40) = w4 := ⟨_, rfl⟩
  have k34 : Kept (fun _ => False) w3 w4 := by rw [← hw4]; exact Kept.one_alloc _ _
  have ba4 : Box w4 ab (.slice none 0 0) := by rw [← hw4, ← hab]; exact Box.new _ _ _
  rw [hw4, hab]
  have HAB := Lib.hid hab
  have BA := Lib.hid (And.intro ba4 k34)
  clear hab hw4 ba4 k34
  refine callsIn_WR.2 ((all_any bt w4).mono ?_)
  rintro e w5 ⟨bx, rfl, hbox, k5, hbx⟩
  have hnf := run_eq_nilFunc (P := Tryz.prog) w5 (.func 39) #[] #[.pointer (some ⟨bx, 0, none⟩)] Tryz.underlying42
  obtain ⟨iv, E, F, hT, hP, hF⟩ := ST.out.1
  have k35 : Kept (fun _ => False) w3 w5 := BA.out.2.trans k5 (fun _ _ e => e)
  have HT := Lib.hid (And.intro (hT.kept k35 (fun _ _ e => e)) (And.intro hP (show ∀ b, Tfp bt E F b → b < ab from fun b hb => by have := (ST.out.2 b (hF b hb)).2; have := KW3.out.2; have := HAB.out; omega)))
  have H5 := Lib.hid (And.intro hbox (And.intro k35 (And.intro hbx (BA.out.1.kept k5 (fun e => e)))))
  clear hT hP hF k35 hbox k5 hbx
  gi_wp2_with fail
  obtain ⟨hbox, k35, hbx, ba5⟩ := H5.out
  have habw : ab < w4.heap.size := BA.out.1.lt
  have hRd : AllRd bx bt m iv E F w5 := ⟨hbox.cell, hbox.lt, HT.out.1.allR⟩
  have hDl : ∀ b, AllD bt E F b → b < ab := fun b hb => HT.out.2.2 b (hb.imp id (fun h => h.imp id (fun ⟨x, hx, e⟩ => ⟨x, hx, .inl e⟩)))
  have HD := Lib.hid hDl
  refine wpW_rangeG (all1_any bx bt m iv E F) rfl all_enters (fun _ => by rfl) (fun (pre : List En) U W' => Coll ab 9 1 (prV (kvs pre)).length (prV (kvs pre)) U W') (fun _ _ _ => False) (fun b => b = ab)
    (fun (pre : List En) U W W' h k => Coll.kept h k) (fun _ _ _ _ h _ => h) ?_ ?_ ?_ hRd (fun W W' h k => h.kept k (fun e => e (.inl rfl)) (fun b hb e => e (.inr hb))) (Coll.start ba5 rfl) ?_ ?_ (fun _ _ _ _ h => h.elim)
  · rintro b rfl (h | h)
    · omega
    · have := hDl _ h
      omega
  · rintro b (rfl | h)
    · exact hbox.lt
    · exact hRd.2.2.dlt b h
  · rintro b rfl
    exact ba5.lt
  · intro l pre x rest U' W7 hitems hi hkw hlt' hD' hRd' hl hlD hlW hlw hUU
    have HLT := Lib.hid hlt'
    have hmem : x ∈ E := (ordT_perm m E).mem_iff.1 (by rw [← hitems]; simp)
    have hpl : (prV (kvs pre)).length < 100 := by
      have h1 := congrArg List.length hitems
      rw [(ordT_perm m E).length_eq] at h1
      have h2 := HT.out.1.len
      have h3 := HMR.out.2.2.2
      rw [prV_len, kvs_len]
      simp at h1
      omega
    have hT7 : Tb W7 bt m iv E F := HT.out.1.kept hkw (fun b hb e => by have := HT.out.2.2 b hb; omega)
    have hlab : ¬ Tfp bt E F l := fun e => by have := HT.out.2.2 l e; have := k35.size; have := HAB.out; have := H5.out.2.1.size; omega
    have HT7 := Lib.hid (And.intro hT7 (And.intro hmem hlab))
    clear hlt' hD' hRd' hUU hkw hitems hRd hDl k35 hnf ba5 hbox hbx hT7 hmem hlab
    simp only [encE, List.zip_toArray, List.zip_cons_cons, List.zip_nil_left, List.foldl_toArray', List.foldl_cons, List.foldl_nil, List.setIfInBounds_toArray, List.set_cons_succ, List.set_cons_zero]
    gi_wp2_with (rw [Oper.semAt_eq _ _ _ (fun c h => by cases h)]; go_simp; try go_bits)
    refine ⟨trivial, ?_⟩
    intro W8 kl zl
    have ZL := Lib.hid zl
    clear zl
    have hT8 : Tb W8 bt m iv E F := HT7.out.1.kept kl (fun b hb e => HT7.out.2.2 (by rw [← e]; exact hb))
    have hcv := (hT8.en x HT7.out.2.1).data.conv (c := x.c)
    have hi2 : Coll ab 9 1 (prV (kvs pre)).length (prV (kvs pre)) U' W8 := hi.kept (kl.mono fun b _ e h => by subst e; exact hl h)
    obtain ⟨o5, ho, hrow, hoo, hU⟩ := hi2
    have hco := ho.cell
    have hfo := ho.frozen
    have hrow2 := ownsRow_kept hrow (Kept.one_alloc W8 (.cells #[.string x.key, .string x.data] 9)) (fun _ _ e => e)
    obtain ⟨n0, hn0⟩ : ∃ n0, (prV (kvs pre)).length = n0 := ⟨_, rfl⟩
    rw [hn0] at hrow hrow2 hpl
    clear hi hT8
    gi_wp2_with (first
      | (gi_at_builtin; refine wpListW_append_mine rfl _ _ textU rfl rfl hrow2 (some ⟨W8.heap.size, 0, none⟩) 2 2 [.string x.key, .string x.data] rfl rfl (holds_block (heap_alloc_new W8 _)) (by simp [Value.oneCell']) (by unfold maxLen; omega) (by omega) ?_
         intro a1 c1 w' h2 h3 h4
         have bo4 := (ho.alloc (.cells #[.string x.key, .string x.data] 9)).kept h3 (fun e => (hoo _ e).2 rfl)
         have hco4 := bo4.cell
         have hfo4 := bo4.frozen
         go_frame)
      | (rw [Oper.semAt_eq _ _ _ (fun c h => by cases h)]; go_simp; try go_bits))
    obtain ⟨e1, e2, e3, e4, e5, -⟩ := coll_round kl hl HLT.out hlW ho hrow hoo hU (Kept.one_alloc W8 (.cells #[.string x.key, .string x.data] 9)) h2 h3 h4
    refine ⟨e1, _, e2, e3, e4, ?_⟩
    show Coll ab 9 1 (prV (kvs (pre ++ [x]))).length (prV (kvs (pre ++ [x]))) _ _
    have e6 : prV (kvs (pre ++ [x])) = prV (kvs pre) ++ [.string x.key, .string x.data] := by rw [kvs_snoc, prV_snoc]
    rw [e6, List.length_append, hn0]
    exact e5
  · intro items dk U3 W7 hfull hi hkw hRd' hdk hdkn hdkU hUU hUn hUlt
    obtain ⟨o5, ho, hrow, hoo, hU⟩ := hi
    subst hfull
    obtain ⟨Q1, hQ1⟩ : ∃ Q1, kvs (ordT m E) = Q1 := ⟨_, rfl⟩
    rw [hQ1] at hrow
    obtain ⟨aa, ac, rfl, hga, -, -⟩ := own_form hrow
    obtain ⟨LA, hLA⟩ : ∃ LA, (prV Q1).length = LA := ⟨_, rfl⟩
    have hLA2 : LA = Q1.length * 2 := by rw [← hLA, prV_len]
    rw [hLA] at hrow ho hoo
    obtain ⟨W8, hW8⟩ : ∃ W8, W7.alloc (.cells #[.int .i64 0] 3) = W8 := ⟨_, rfl⟩
    obtain ⟨ib, hib⟩ : ∃ ib, W7.heap.size = ib := ⟨_, rfl⟩
    have k78 : Kept (fun _ => False) W7 W8 := by rw [← hW8]; exact Kept.one_alloc _ _
    have bi8 : Box W8 ib (.int .i64 0) := by rw [← hW8, ← hib]; exact Box.new _ _ _
    have hz8 : W8.heap.size = ib + 1 := by rw [← hW8, ← hib]; simp
    have hz35 := k35.size
    have hzw := hkw.size
    have habz := HAB.out
    have hbxl := hbox.lt
    have k37 : Kept (fun _ => False) w3 W7 := k35.trans hkw (fun b hb e => by have e : b = ab := e; omega)
    have k38 := k37.trans k78 (fun _ _ e => e)
    have habi : ab < ib := by omega
    have hdki : dk < ib := by rw [← hib]; exact (Array.getElem?_eq_some_iff.1 hdk).1
    have hzb := H5.out.2.1.size
    have h45 : w4.heap.size ≤ w5.heap.size := by have := BA.out.2.size; have := k35.size; have := H5.out.2.2.1; have := H5.out.1.lt; omega
    have hdab : ab < dk := by omega
    have B8 := Lib.hid (show Box W8 ab (.slice aa LA ac) ∧ W8.ownsRow 0 9 1 (.slice aa LA ac) LA (prV Q1) ∧ (∀ b, (Value.slice aa LA ac).ownBlock = some b → b ≠ ab ∧ b < ib) ∧ W8.heap[dk]? = some (.deferred (some [])) ∧ ab < dk ∧ dk < ib ∧ w3.heap.size ≤ ib from
      ⟨ho.kept k78 (fun e => e), ownsRow_kept hrow k78 (fun _ _ e => e), fun b hb => ⟨(hoo b hb).2, by rw [← hib]; exact hUlt b (hoo b hb).1⟩, (k78.block dk (by omega) (fun e => e)).trans hdk, hdab, hdki, by omega⟩)
    have ST8 := Lib.hid (ST.out.1.keep k38)
    have SU8 := Lib.hid (SU.out.1.keep k38)
    have BI8 := Lib.hid (And.intro bi8 (And.intro hz8 (And.intro k38 habi)))
    have HLA := Lib.hid (And.intro hLA2 (show Q1 = ordP m P from by rw [← hQ1, ← HT.out.2.1, kvs_ordT HT.out.1.keys]))
    have hQl : Q1.length ≤ 12 := by
      have h1 := ST.out.1.len
      have h2 := HMR.out.2.2.2
      have h3 : Q1.length = P.length := by rw [HLA.out.2, ordP_len]
      omega
    obtain ⟨NU, hNU⟩ : ∃ NU, Q.length = NU := ⟨_, rfl⟩
    have hNU12 : NU ≤ 12 := by
      have h1 := SU.out.1.len
      have h2 := HMR.out.2.2.2
      omega
    have HNU := Lib.hid (And.intro hNU (And.intro hQl hNU12))
    have hca := B8.out.1.cell
    have LEN2 := Lib.hid (show ∀ W', Kept (fun _ => False) W8 W' → Calls Tryz.prog 20 #[.pointer (some ⟨bu, 0, none⟩)] W' fun e w' => e = .returned (.int .i64 (NU : Nat)) ∧ Kept (fun _ => False) W8 w' ∧ Kept (fun _ => False) W' w' from by
      intro W' kk
      refine (ses_len (SU8.out.keep kk)).mono ?_
      rintro e w' ⟨rfl, k'⟩
      exact ⟨by rw [HNU.out.1], kk.trans k' (fun _ _ e => e), k'⟩)
    have n2 : IntKind.i64.wrap (2 * (NU : Int)) = 2 * (NU : Int) := IntWalk.i64_in _ (by omega)
    have n3 : wrap64 (2 * (NU : Int)) = 2 * (NU : Int) := IntWalk.wrap64_in _ (by omega)
    have hsm : ((2 * (NU : Int)) == (LA : Int)) = smB Q1 NU [] := by
      rw [smB_nil, Bool.eq_iff_iff, beq_iff_eq, decide_eq_true_eq]
      omega
    obtain ⟨sm, hsm2⟩ : ∃ sm, smB Q1 NU [] = sm := ⟨_, rfl⟩
    rw [hsm2] at hsm
    have HSM := Lib.hid hsm2
    have CELLS := Lib.hid (show ∀ w', Kept (fun _ => False) W8 w' → w'.cell? ⟨ab, 0, none⟩ = some (.slice aa LA ac) from fun w' kk => (B8.out.1.kept kk (fun e => e)).cell)
    have HW8 := Lib.hid (And.intro hW8 hib)
    clear hbxl hQ1 hrow hga hLA hLA2 ho hoo k78 bi8 hz8 hz35 hzw habz k37 k38 habi hdki hzb h45 hdab hQl hNU hNU12 hsm2 hkw hRd' hdk hdkn hdkU hUU hUn hUlt hU hRd hDl hbox hbx ba5 habw k35 hnf hW8 hib
    gi_wp2_with fail
    try rw [HW8.out.2]
    try rw [HW8.out.1]
    refine wpW_region_held (S := fun w' => w'.cell? ⟨ab, 0, none⟩ = some (.slice aa LA ac)) (by kernel_rfl) (by kernel_rfl) (by rintro ⟨_, _, h⟩; first | exact h.elim | (obtain ⟨h1, -⟩ := h; cases h1)) ?_ (fun hHeld => ?_)
    · exact CELLS.out _ ((Kept.refl _ _).twin ⟨rfl, rfl, rfl, rfl⟩)
    refine held_take 0 (oi := _) (v := ?_) rfl (by kernel_rfl) (by kernel_rfl) (by kernel_rfl) (fun _ _ _ h => h) (by rfl) (fun w hSw => ?_) (by assumption) ?_
    rotate_left
    · (try dsimp only at hSw); go_simp; try with_reducible rfl
    try simp only [Act.put, List.setIfInBounds_toArray, List.set_cons_zero, List.set_cons_succ]
    refine held_take 3 (oi := _) (v := ?_) rfl (by kernel_rfl) (by kernel_rfl) (by kernel_rfl) (fun _ _ _ h => h) (by rfl) (fun w hSw => ?_) (by assumption) ?_
    rotate_left
    · (try dsimp only at hSw); go_simp; try with_reducible rfl
    try simp only [Act.put, List.setIfInBounds_toArray, List.set_cons_zero, List.set_cons_succ]
    refine held_take 4 (oi := _) (v := ?_) rfl (by kernel_rfl) (by kernel_rfl) (by kernel_rfl) (fun _ _ _ h => h) (by rfl) (fun w hSw => ?_) (by assumption) ?_
    rotate_left
    · (try dsimp only at hSw); go_simp; try with_reducible rfl
    try simp only [Act.put, List.setIfInBounds_toArray, List.set_cons_zero, List.set_cons_succ]
    refine wpAnyH_ready (rs := [1, 6]) (by kernel_rfl) (by simp) ?_
    refine held_cons 1 (o := _) rfl (fun KC hKC => ?_) (held_cons 6 (o := _) rfl (fun KC hKC => ?_) AllReadyH.nil)
    ·
      go_simp
      with_reducible refine Calls.mono (LEN2.out _ (by first | exact TS.out | exact (Kept.refl _ _).twin ⟨rfl, rfl, rfl, rfl⟩)) ?_
      rintro e1 wA ⟨rfl, kA, kSA⟩
      have TA := Lib.hid kA
      have KSA := Lib.hid kSA
      clear kA kSA
      dsimp only
      refine hKC.out _ _ ?_ (fun hHeld => ?_)
      · first | exact CELLS.out _ (TS.out.trans (Kept.one_set wS ⟨sb, 0, none⟩ (.bool sm)) (fun b hb e => by have e : b = sb := e; have := SBL.out; omega)) | exact CELLS.out _ (TA.out.trans (Kept.one_set wA ⟨sb, 0, none⟩ (.bool sm)) (fun b hb e => by have e : b = sb := e; have := SBL.out; omega)) | exact CELLS.out _ TS.out | exact CELLS.out _ TA.out
      clear hKC KC
      try simp only [Act.put, List.setIfInBounds_toArray, List.set_cons_zero, List.set_cons_succ]
      refine held_take 2 (oi := _) (v := ?_) rfl (by kernel_rfl) (by kernel_rfl) (by kernel_rfl) (fun _ _ _ h => h) (by rfl) (fun w hSw => ?_) (by assumption) ?_
      rotate_left
      · (try dsimp only at hSw); go_simp; try with_reducible rfl
      try simp only [Act.put, List.setIfInBounds_toArray, List.set_cons_zero, List.set_cons_succ]
      refine held_take 5 (oi := _) (v := ?_) rfl (by kernel_rfl) (by kernel_rfl) (by kernel_rfl) (fun _ _ _ h => h) (by rfl) (fun w hSw => ?_) (by assumption) ?_
      rotate_left
      · (try dsimp only at hSw); go_simp; try with_reducible rfl
      try simp only [Act.put, List.setIfInBounds_toArray, List.set_cons_zero, List.set_cons_succ]
      refine wpAnyH_ready (rs := [6]) (by kernel_rfl) (by simp) ?_
      refine held_cons 6 (o := _) rfl (fun KC hKC => ?_) AllReadyH.nil
      go_simp
      first | refine alloc_abs (K := KC _) ?_ | refine alloc_absD (K := KC _) ?_
      intro wS kS hS
      obtain ⟨sb, hsb, hS⟩ := heap_name hS
      have TS := Lib.hid (show Kept (fun _ => False) W8 wS from by first | exact TA.out.trans kS (fun _ _ e => e) | exact kS)
      have SBL := Lib.hid (show W8.heap.size ≤ sb from by first | (rw [← hsb]; exact TA.out.size) | exact Nat.le_of_eq hsb)
      rw [hsb]
      have BSB := Lib.hid (box_heap hS)
      have KS := Lib.hid kS
      clear kS hS hsb
      refine hKC.out _ _ ?_ (fun hHeld => ?_)
      · first | exact CELLS.out _ (TS.out.trans (Kept.one_set wS ⟨sb, 0, none⟩ (.bool sm)) (fun b hb e => by have e : b = sb := e; have := SBL.out; omega)) | exact CELLS.out _ (TA.out.trans (Kept.one_set wA ⟨sb, 0, none⟩ (.bool sm)) (fun b hb e => by have e : b = sb := e; have := SBL.out; omega)) | exact CELLS.out _ TS.out | exact CELLS.out _ TA.out
      clear hKC KC
      try simp only [Act.put, List.setIfInBounds_toArray, List.set_cons_zero, List.set_cons_succ]
      refine wpAnyH_ready (rs := [7]) (by kernel_rfl) (by simp) ?_
      refine held_cons 7 (o := _) rfl (fun KC hKC => ?_) AllReadyH.nil
      go_simp
      have hfs : ∀ w', Box w' sb (.bool false) → w'.frozen? ⟨sb, 0, none⟩ = false := fun w' h => h.frozen
      first
        | (have hfb := (BSB.out.kept KSA.out (fun e => e)).frozen; have hcb := (BSB.out.kept KSA.out (fun e => e)).cell; go_simp)
        | (have hfb := BSB.out.frozen; have hcb := BSB.out.cell; go_simp)
      refine hKC.out _ _ ?_ (fun hHeld => ?_)
      · first | exact CELLS.out _ (TS.out.trans (Kept.one_set wS ⟨sb, 0, none⟩ (.bool sm)) (fun b hb e => by have e : b = sb := e; have := SBL.out; omega)) | exact CELLS.out _ (TA.out.trans (Kept.one_set wA ⟨sb, 0, none⟩ (.bool sm)) (fun b hb e => by have e : b = sb := e; have := SBL.out; omega)) | exact CELLS.out _ TS.out | exact CELLS.out _ TA.out
      clear hKC KC
      try simp only [Act.put, List.setIfInBounds_toArray, List.set_cons_zero, List.set_cons_succ]
      refine wpAnyH_done (by kernel_rfl) (NoPanic.normal ?_) _
      gi_wp2_with fail
      generalize hwF : World.setCell _ ⟨sb, 0, none⟩ (Value.bool sm) = wF
      have bF : Box wF sb (.bool sm) := by rw [← hwF]; first | exact (BSB.out.kept KSA.out (fun e => e)).set _ | exact BSB.out.set _
      have kF : Kept (fun _ => False) W8 wF := by
        rw [← hwF]
        first
          | exact TS.out.trans (Kept.one_set wS ⟨sb, 0, none⟩ _) (fun b hb e => by have e : b = sb := e; have := SBL.out; omega)
          | exact TA.out.trans (Kept.one_set wA ⟨sb, 0, none⟩ _) (fun b hb e => by have e : b = sb := e; have := SBL.out; omega)
      have BF := Lib.hid bF
      have KF := Lib.hid kF
      clear hwF bF kF hca hsm n2 n3
      refine callsIn_WR.2 ((all_any bu wF).mono ?_)
      rintro e w10 ⟨by', rfl, hbox, k10, hby⟩
      have hnf := run_eq_nilFunc (P := Tryz.prog) w10 (.func 39) #[] #[.pointer (some ⟨by', 0, none⟩)] Tryz.underlying42
      obtain ⟨iv2, E2, F2, hT2, hP2, hF2⟩ := SU.out.1
      have k310 : Kept (fun _ => False) w3 w10 := (BI8.out.2.2.1.trans KF.out (fun _ _ e => e)).trans k10 (fun _ _ e => e)
      have HT2 := Lib.hid (And.intro (hT2.kept k310 (fun _ _ e => e)) (And.intro hP2 (show ∀ b, Tfp bu E2 F2 b → b < w3.heap.size from fun b hb => (SU.out.2 b (hF2 b hb)).2)))
      have H10 := Lib.hid (And.intro hbox (And.intro k10 (And.intro hby (BF.out.kept k10 (fun e => e)))))
      clear hT2 hP2 hF2 k310 hbox k10 hby
      gi_wp2_with fail
      obtain ⟨hbox, k10, hby, bF10⟩ := H10.out
      have hRd : AllRd by' bu m iv2 E2 F2 w10 := ⟨hbox.cell, hbox.lt, HT2.out.1.allR⟩
      have hDl : ∀ b, AllD bu E2 F2 b → b < w3.heap.size := fun b hb => HT2.out.2.2 b (hb.imp id (fun h => h.imp id (fun ⟨x, hx, e⟩ => ⟨x, hx, .inl e⟩)))
      have hb87 := B8.out.2.2.2.2.2.2
      have hz8 := BI8.out.2.1
      have hsbl := SBL.out
      have hzF := KF.out.size
      have bi10 : Box w10 ib (.int .i64 0) := (BI8.out.1.kept KF.out (fun e => e)).kept k10 (fun e => e)
      refine wpW_rangeG (all1_any by' bu m iv2 E2 F2) rfl all_enters (fun _ => by rfl) (fun (pre : List En) U W' => SmI ib sb Q1 NU (kvs pre) U W') (fun _ _ _ => False) (fun b => b = ib ∨ b = sb)
        (fun (pre : List En) U W W' h k => SmI.kept h k) (fun _ _ _ _ h _ => h) ?_ ?_ ?_ hRd (fun W W' h k => h.kept k (fun e => e (.inl rfl)) (fun b hb e => e (.inr hb))) ⟨bi10, by rw [show kvs [] = [] from rfl, HSM.out]; exact bF10, .inl rfl, .inr rfl, by omega⟩ ?_ ?_ (fun _ _ _ _ h => h.elim)
      · rintro b hb (h | h)
        · have := BF.out.lt
          omega
        · have := hDl _ h
          omega
      · rintro b (rfl | h)
        · exact hbox.lt
        · exact hRd.2.2.dlt b h
      · rintro b (rfl | rfl)
        · exact bi10.lt
        · exact bF10.lt
      · intro l pre x rest U' W11 hitems hi hkw hlt' hD' hRd' hl hlD hlW hlw hUU
        have HLT := Lib.hid (And.intro hlt' (And.intro hl (And.intro hlW (And.intro hlw hkw))))
        have hpl : pre.length < NU := by
          have h1 := congrArg List.length hitems
          rw [(ordT_perm m E2).length_eq] at h1
          have h2 := congrArg List.length HT2.out.2.1
          rw [kvs_len] at h2
          simp at h1
          have := HNU.out.1
          omega
        have hmem : x ∈ E2 := (ordT_perm m E2).mem_iff.1 (by rw [← hitems]; simp)
        have hT11 : Tb W11 bu m iv2 E2 F2 := HT2.out.1.kept hkw (fun b hb e => by have := HT2.out.2.2 b hb; omega)
        have hlu : ¬ Tfp bu E2 F2 l := fun e => by have := HT2.out.2.2 l e; have := k10.size; omega
        have HT11 := Lib.hid (And.intro hT11 (And.intro hmem hlu))
        clear hlt' hD' hRd' hUU hkw hitems hRd hDl hnf hbox hby hT11 hmem hlu hlD hlw k10 bF10 bi10 hb87 hz8 hsbl hzF
        simp only [encE, List.zip_toArray, List.zip_cons_cons, List.zip_nil_left, List.foldl_toArray', List.foldl_cons, List.foldl_nil, List.setIfInBounds_toArray, List.set_cons_succ, List.set_cons_zero]
        gi_wp2_with (rw [Oper.semAt_eq _ _ _ (fun c h => by cases h)]; go_simp; try go_bits)
        refine ⟨trivial, ?_⟩
        intro W12 kl zl
        clear zl
        have hT12 : Tb W12 bu m iv2 E2 F2 := HT11.out.1.kept kl (fun b hb e => HT11.out.2.2 (by rw [← e]; exact hb))
        obtain ⟨R, hR⟩ : ∃ R, kvs pre = R := ⟨_, rfl⟩
        have hRl : R.length = pre.length := by rw [← hR, kvs_len]
        have hi2 : SmI ib sb Q1 NU R U' W12 := by rw [← hR]; exact SmI.kept hi (kl.mono fun b _ e h => by subst e; exact hl h)
        obtain ⟨hbi, hbs, hUi, hUs, hne⟩ := hi2
        have k8 : Kept (fun b => b = ib ∨ b = sb ∨ b = l) W8 W12 := ((KF.out.mono fun _ _ e => e.elim).trans (H10.out.2.1.mono (S' := fun b => b = ib ∨ b = sb ∨ b = l) fun _ _ e => e.elim) (fun _ _ e => e)).trans ((HLT.out.2.2.2.2.mono (S' := fun b => b = ib ∨ b = sb ∨ b = l) fun _ _ e => e.elim .inl (fun e => .inr (.inl e))).trans kl (fun b _ e => .inr (.inr e))) (fun _ _ e => e)
        have hlb : W8.heap.size ≤ l := Nat.le_trans (Nat.le_trans KF.out.size H10.out.2.1.size) HLT.out.2.2.2.1
        have hsb := SBL.out
        have hz8 := BI8.out.2.1
        have hab := BI8.out.2.2.2
        obtain ⟨b81, b82, b83, b84, b85, b86, b87⟩ := B8.out
        have ba := b81.kept k8 (fun e => by omega)
        have hrowA := ownsRow_kept b82 k8 (fun b e => by have := b83 b e; omega)
        obtain ⟨J, hJ⟩ : ∃ J, R.length * 2 = J := ⟨_, rfl⟩
        rw [hJ] at hbi
        obtain ⟨st, hst⟩ : ∃ st, smB Q1 NU R = st := ⟨_, rfl⟩
        rw [hst] at hbs
        have hJ0 : (J : Int) + 1 < 1000000 := by have := HNU.out.2; omega
        have n1 : IntKind.i64.wrap ((J : Int) + 1) = (J : Int) + 1 := IntWalk.i64_in _ (by omega)
        have n2 : IntKind.i64.wrap ((J : Int) + 2) = (J : Int) + 2 := IntWalk.i64_in _ (by omega)
        have n3 : wrap64 ((J : Int) + 1) = (J : Int) + 1 := IntWalk.wrap64_in _ (by omega)
        have n4 : wrap64 ((J : Int) + 2) = (J : Int) + 2 := IntWalk.wrap64_in _ (by omega)
        have n5 : (0 : Int) ≤ (J : Int) + 1 := by omega
        have HJ := Lib.hid (And.intro hJ (And.intro hR (And.intro hRl hpl)))
        have HST := Lib.hid hst
        have hx := hT12.en x HT11.out.2.1
        obtain ⟨w9, hw9, t9⟩ : ∃ w9, w9 = ({ W12 with drawn := W12.drawn + 1 } : World) ∧ Twin w9 W12 := ⟨_, rfl, rfl, rfl, rfl, rfl⟩
        have hci := (hbi.twin t9).cell
        have hfi := (hbi.twin t9).frozen
        have hcs := (hbs.twin t9).cell
        have hfs := (hbs.twin t9).frozen
        have hca := (ba.twin t9).cell
        have hcv := (hx.data.twin t9).conv (c := x.c)
        have hne2 : (sb == ib) = false := by rw [beq_eq_false_iff_ne]; exact fun e => hne e.symm
        have hne3 : ¬ sb = ib := fun e => hne e.symm
        have k129 : Kept (fun _ => False) W12 w9 := (Kept.refl _ _).twin t9
        have DONE := Lib.hid (show ∀ v : Bool, smB Q1 NU (R ++ [(x.key, x.data)]) = v →
            ((w9.setCell ⟨sb, 0, none⟩ (.bool v)).setCell ⟨ib, 0, none⟩ (.int .i64 ((J : Int) + 2))).heap[l]? = W12.heap[l]? ∧ ∃ U3, Grow (fun b => U' b ∨ b = l) (fun b => U3 b ∨ b = l) W11 ((w9.setCell ⟨sb, 0, none⟩ (.bool v)).setCell ⟨ib, 0, none⟩ (.int .i64 ((J : Int) + 2))) ∧ ¬ U3 l ∧ (∀ b, U' b → U3 b) ∧ SmI ib sb Q1 NU (kvs (pre ++ [x])) U3 ((w9.setCell ⟨sb, 0, none⟩ (.bool v)).setCell ⟨ib, 0, none⟩ (.int .i64 ((J : Int) + 2))) from fun v hv => by
          have kr : Kept U' W12 ((w9.setCell ⟨sb, 0, none⟩ (.bool v)).setCell ⟨ib, 0, none⟩ (.int .i64 ((J : Int) + 2))) := ((k129.mono (S' := U') fun _ _ e => e.elim).trans (Kept.one_set w9 ⟨sb, 0, none⟩ _) (fun b _ e => by have e : b = sb := e; rw [e]; exact hUs)).trans (Kept.one_set _ ⟨ib, 0, none⟩ _) (fun b _ e => by have e : b = ib := e; rw [e]; exact hUi)
          obtain ⟨e1, e2, e3, e4⟩ := round_plain (U := U') kl HLT.out.2.1 HLT.out.1 HLT.out.2.2.1 kr
          refine ⟨e1, _, e2, e3, e4, ?_⟩
          rw [kvs_snoc, HJ.out.2.1]
          refine ⟨?_, ?_, hUi, hUs, hne⟩
          · have h := ((hbi.twin t9).other (.bool v) hne).set (.int .i64 ((J : Int) + 2))
            rw [List.length_append, show ((R.length + [(x.key, x.data)].length) * 2 : Nat) = J + 2 by rw [← HJ.out.1]; show (R.length + 1) * 2 = _; omega]
            exact h
          · rw [hv]
            exact ((hbs.twin t9).set (.bool v)).other _ (fun e => hne e.symm))
        have STEP := Lib.hid (smB_step (Q1 := Q1) (NU := NU) (R := R) (p := (x.key, x.data)) (by omega))
        have ROW := Lib.hid (ownsRow_kept hrowA k129 (fun _ _ e => e))
        clear hT12 hbi hbs hUi hUs hne k8 hlb hsb hz8 hab b81 b82 b83 b84 b85 b86 b87 ba hJ hR hRl hpl hst hx t9 k129 kl hl hlW hi hrowA
        cases st with
        | false =>
          gi_wp2_with fail
          refine wpW_region_tail 26 (by kernel_rfl) (by kernel_rfl) ?_
          simp only [List.take_succ_cons, List.take_zero, List.drop_succ_cons, List.drop_zero]
          rw [← hw9]
          clear hw9
          with_reducible refine wpStill_want (by kernel_rfl) (fun K hK => ?_); go_simp; with_reducible refine hK _ ?_; clear hK K
          with_reducible refine wpStill_want (by kernel_rfl) (fun K hK => ?_); go_simp; with_reducible refine hK _ ?_; clear hK K
          with_reducible refine wpStill_pass (by kernel_rfl) (fun K hK => ?_); go_simp; with_reducible refine hK _ ?_; clear hK K
          with_reducible refine wpStill_pass (by kernel_rfl) (fun K hK => ?_); go_simp; with_reducible refine hK _ ?_; clear hK K
          with_reducible refine wpStill_pass (by kernel_rfl) (fun K hK => ?_); go_simp; with_reducible refine hK _ ?_; clear hK K
          with_reducible refine wpStill_pass (by kernel_rfl) (fun K hK => ?_); go_simp; with_reducible refine hK _ ?_; clear hK K
          with_reducible refine wpStill_pass (by kernel_rfl) (fun K hK => ?_); go_simp; with_reducible refine hK _ ?_; clear hK K
          with_reducible refine wpStill_want (by kernel_rfl) (fun K hK => ?_); go_simp; with_reducible refine hK _ ?_; clear hK K
          with_reducible refine wpStill_want (by kernel_rfl) (fun K hK => ?_); go_simp; with_reducible refine hK _ ?_; clear hK K
          with_reducible refine wpStill_pass (by kernel_rfl) (fun K hK => ?_); go_simp; with_reducible refine hK _ ?_; clear hK K
          with_reducible refine wpStill_pass (by kernel_rfl) (fun K hK => ?_); go_simp; with_reducible refine hK _ ?_; clear hK K
          with_reducible refine wpStill_pass (by kernel_rfl) (fun K hK => ?_); go_simp; with_reducible refine hK _ ?_; clear hK K
          with_reducible refine wpStill_pass (by kernel_rfl) (fun K hK => ?_); go_simp; with_reducible refine hK _ ?_; clear hK K
          with_reducible refine wpStill_pass (by kernel_rfl) (fun K hK => ?_); go_simp; with_reducible refine hK _ ?_; clear hK K
          with_reducible refine wpStill_pass (by kernel_rfl) (fun K hK => ?_); go_simp; with_reducible refine hK _ ?_; clear hK K
          with_reducible refine wpStill_want (by kernel_rfl) (fun K hK => ?_); go_simp; with_reducible refine hK _ ?_; clear hK K
          with_reducible refine wpStill_want (by kernel_rfl) (fun K hK => ?_); go_simp; with_reducible refine hK _ ?_; clear hK K
          with_reducible refine wpStill_pass (by kernel_rfl) (fun K hK => ?_); go_simp; with_reducible refine hK _ ?_; clear hK K
          with_reducible refine wpStill_pass (by kernel_rfl) (fun K hK => ?_); go_simp; with_reducible refine hK _ ?_; clear hK K
          with_reducible refine wpStill_pass (by kernel_rfl) (fun K hK => ?_); go_simp; with_reducible refine hK _ ?_; clear hK K
          with_reducible refine wpStill_pass (by kernel_rfl) (fun K hK => ?_); go_simp; with_reducible refine hK _ ?_; clear hK K
          with_reducible refine wpStill_pass (by kernel_rfl) (fun K hK => ?_); go_simp; with_reducible refine hK _ ?_; clear hK K
          with_reducible refine wpStill_pass (by kernel_rfl) (fun K hK => ?_); go_simp; with_reducible refine hK _ ?_; clear hK K
          with_reducible refine wpStill_pass (by kernel_rfl) (fun K hK => ?_); go_simp; with_reducible refine hK _ ?_; clear hK K
          with_reducible refine wpStill_pass (by kernel_rfl) (fun K hK => ?_); go_simp; with_reducible refine hK _ ?_; clear hK K
          with_reducible refine wpStill_want (by kernel_rfl) (fun K hK => ?_); go_simp; with_reducible refine hK _ ?_; clear hK K
          refine wpStill_nil ?_
          gi_wp2_with (rw [Oper.semAt_eq _ _ _ (fun c h => by cases h)]; go_simp; try go_bits)
          exact DONE.out false (by rw [STEP.out, HST.out]; rfl)
        | true =>
          obtain ⟨q, hq, hQN⟩ := smB_true HST.out (by rw [HJ.out.2.2.1]; exact HJ.out.2.2.2)
          obtain ⟨g1, g2⟩ := prV_at hq
          rw [HJ.out.1] at g1 g2
          obtain ⟨aa', ac', e, hga, -, -⟩ := own_form ROW.out
          have hJL : J + 1 < LA := by rw [HLA.out.1, hQN, ← HJ.out.1, HJ.out.2.2.1]; have := HJ.out.2.2.2; omega
          obtain ⟨ga, hga⟩ := hga (by omega)
          cases e
          subst hga
          have d1 := own_cell ROW.out g1
          have d2 := own_cell ROW.out g2
          have hJI : (J : Int) + 1 < (LA : Int) := by omega
          have hJI0 : (J : Int) < (LA : Int) := by omega
          have hdl : decide ((J : Int) + 1 < (LA : Int)) = true := decide_eq_true hJI
          clear g1 g2 hQN hJL
          by_cases hk1 : q.1 = x.key
          · by_cases hk2 : q.2 = x.data
            · have e1 : (q.1.toList == x.key.toList) = true := by rw [hk1]; exact bytes_self _
              have e2 : (q.2.toList == x.data.toList) = true := by rw [hk2]; exact bytes_self _
              have ST2 := Lib.hid (show smB Q1 NU (R ++ [(x.key, x.data)]) = true by rw [STEP.out, HST.out, hq, pair_dec, hk1, hk2]; simp)
              clear hk1 hk2 hq
              gi_wp2_with fail
              refine wpW_region_tail 26 (by kernel_rfl) (by kernel_rfl) ?_
              simp only [List.take_succ_cons, List.take_zero, List.drop_succ_cons, List.drop_zero]
              rw [← hw9]
              clear hw9
              with_reducible refine wpStill_want (by kernel_rfl) (fun K hK => ?_); go_simp; with_reducible refine hK _ ?_; clear hK K
              with_reducible refine wpStill_want (by kernel_rfl) (fun K hK => ?_); go_simp; with_reducible refine hK _ ?_; clear hK K
              with_reducible refine wpStill_want (by kernel_rfl) (fun K hK => ?_); go_simp; with_reducible refine hK _ ?_; clear hK K
              with_reducible refine wpStill_want (by kernel_rfl) (fun K hK => ?_); go_simp; with_reducible refine hK _ ?_; clear hK K
              with_reducible refine wpStill_want (by kernel_rfl) (fun K hK => ?_); go_simp; with_reducible refine hK _ ?_; clear hK K
              with_reducible refine wpStill_want (by kernel_rfl) (fun K hK => ?_); go_simp; with_reducible refine hK _ ?_; clear hK K
              with_reducible refine wpStill_want (by kernel_rfl) (fun K hK => ?_); go_simp; with_reducible refine hK _ ?_; clear hK K
              with_reducible refine wpStill_want (by kernel_rfl) (fun K hK => ?_); go_simp; with_reducible refine hK _ ?_; clear hK K
              with_reducible refine wpStill_want (by kernel_rfl) (fun K hK => ?_); go_simp; with_reducible refine hK _ ?_; clear hK K
              with_reducible refine wpStill_want (by kernel_rfl) (fun K hK => ?_); go_simp; with_reducible refine hK _ ?_; clear hK K
              with_reducible refine wpStill_want (by kernel_rfl) (fun K hK => ?_); go_simp; with_reducible refine hK _ ?_; clear hK K
              with_reducible refine wpStill_want (by kernel_rfl) (fun K hK => ?_); go_simp; with_reducible refine hK _ ?_; clear hK K
              with_reducible refine wpStill_want (by kernel_rfl) (fun K hK => ?_); go_simp; with_reducible refine hK _ ?_; clear hK K
              with_reducible refine wpStill_want (by kernel_rfl) (fun K hK => ?_); go_simp; with_reducible refine hK _ ?_; clear hK K
              with_reducible refine wpStill_want (by kernel_rfl) (fun K hK => ?_); go_simp; with_reducible refine hK _ ?_; clear hK K
              with_reducible refine wpStill_want (by kernel_rfl) (fun K hK => ?_); go_simp; with_reducible refine hK _ ?_; clear hK K
              with_reducible refine wpStill_want (by kernel_rfl) (fun K hK => ?_); go_simp; with_reducible refine hK _ ?_; clear hK K
              with_reducible refine wpStill_want (by kernel_rfl) (fun K hK => ?_); go_simp; with_reducible refine hK _ ?_; clear hK K
              with_reducible refine wpStill_want (by kernel_rfl) (fun K hK => ?_); go_simp; with_reducible refine hK _ ?_; clear hK K
              with_reducible refine wpStill_want (by kernel_rfl) (fun K hK => ?_); go_simp; with_reducible refine hK _ ?_; clear hK K
              with_reducible refine wpStill_want (by kernel_rfl) (fun K hK => ?_); go_simp; with_reducible refine hK _ ?_; clear hK K
              with_reducible refine wpStill_want (by kernel_rfl) (fun K hK => ?_); go_simp; with_reducible refine hK _ ?_; clear hK K
              with_reducible refine wpStill_want (by kernel_rfl) (fun K hK => ?_); go_simp; with_reducible refine hK _ ?_; clear hK K
              with_reducible refine wpStill_want (by kernel_rfl) (fun K hK => ?_); go_simp; with_reducible refine hK _ ?_; clear hK K
              with_reducible refine wpStill_want (by kernel_rfl) (fun K hK => ?_); go_simp; with_reducible refine hK _ ?_; clear hK K
              with_reducible refine wpStill_want (by kernel_rfl) (fun K hK => ?_); go_simp; with_reducible refine hK _ ?_; clear hK K
              refine wpStill_nil ?_
              gi_wp2_with (rw [Oper.semAt_eq _ _ _ (fun c h => by cases h)]; go_simp; try go_bits)
              exact DONE.out true ST2.out
            · have e1 : (q.1.toList == x.key.toList) = true := by rw [hk1]; exact bytes_self _
              have e2 : (q.2.toList == x.data.toList) = false := bytes_ne hk2
              have ST2 := Lib.hid (show smB Q1 NU (R ++ [(x.key, x.data)]) = false by rw [STEP.out, HST.out, hq, pair_dec, decide_eq_false hk2]; simp)
              clear hk1 hk2 hq
              gi_wp2_with fail
              refine wpW_region_tail 26 (by kernel_rfl) (by kernel_rfl) ?_
              simp only [List.take_succ_cons, List.take_zero, List.drop_succ_cons, List.drop_zero]
              rw [← hw9]
              clear hw9
              with_reducible refine wpStill_want (by kernel_rfl) (fun K hK => ?_); go_simp; with_reducible refine hK _ ?_; clear hK K
              with_reducible refine wpStill_want (by kernel_rfl) (fun K hK => ?_); go_simp; with_reducible refine hK _ ?_; clear hK K
              with_reducible refine wpStill_want (by kernel_rfl) (fun K hK => ?_); go_simp; with_reducible refine hK _ ?_; clear hK K
              with_reducible refine wpStill_want (by kernel_rfl) (fun K hK => ?_); go_simp; with_reducible refine hK _ ?_; clear hK K
              with_reducible refine wpStill_want (by kernel_rfl) (fun K hK => ?_); go_simp; with_reducible refine hK _ ?_; clear hK K
              with_reducible refine wpStill_want (by kernel_rfl) (fun K hK => ?_); go_simp; with_reducible refine hK _ ?_; clear hK K
              with_reducible refine wpStill_want (by kernel_rfl) (fun K hK => ?_); go_simp; with_reducible refine hK _ ?_; clear hK K
              with_reducible refine wpStill_want (by kernel_rfl) (fun K hK => ?_); go_simp; with_reducible refine hK _ ?_; clear hK K
              with_reducible refine wpStill_want (by kernel_rfl) (fun K hK => ?_); go_simp; with_reducible refine hK _ ?_; clear hK K
              with_reducible refine wpStill_want (by kernel_rfl) (fun K hK => ?_); go_simp; with_reducible refine hK _ ?_; clear hK K
              with_reducible refine wpStill_want (by kernel_rfl) (fun K hK => ?_); go_simp; with_reducible refine hK _ ?_; clear hK K
              with_reducible refine wpStill_want (by kernel_rfl) (fun K hK => ?_); go_simp; with_reducible refine hK _ ?_; clear hK K
              with_reducible refine wpStill_want (by kernel_rfl) (fun K hK => ?_); go_simp; with_reducible refine hK _ ?_; clear hK K
              with_reducible refine wpStill_want (by kernel_rfl) (fun K hK => ?_); go_simp; with_reducible refine hK _ ?_; clear hK K
              with_reducible refine wpStill_want (by kernel_rfl) (fun K hK => ?_); go_simp; with_reducible refine hK _ ?_; clear hK K
              with_reducible refine wpStill_want (by kernel_rfl) (fun K hK => ?_); go_simp; with_reducible refine hK _ ?_; clear hK K
              with_reducible refine wpStill_want (by kernel_rfl) (fun K hK => ?_); go_simp; with_reducible refine hK _ ?_; clear hK K
              with_reducible refine wpStill_want (by kernel_rfl) (fun K hK => ?_); go_simp; with_reducible refine hK _ ?_; clear hK K
              with_reducible refine wpStill_want (by kernel_rfl) (fun K hK => ?_); go_simp; with_reducible refine hK _ ?_; clear hK K
              with_reducible refine wpStill_want (by kernel_rfl) (fun K hK => ?_); go_simp; with_reducible refine hK _ ?_; clear hK K
              with_reducible refine wpStill_want (by kernel_rfl) (fun K hK => ?_); go_simp; with_reducible refine hK _ ?_; clear hK K
              with_reducible refine wpStill_want (by kernel_rfl) (fun K hK => ?_); go_simp; with_reducible refine hK _ ?_; clear hK K
              with_reducible refine wpStill_want (by kernel_rfl) (fun K hK => ?_); go_simp; with_reducible refine hK _ ?_; clear hK K
              with_reducible refine wpStill_want (by kernel_rfl) (fun K hK => ?_); go_simp; with_reducible refine hK _ ?_; clear hK K
              with_reducible refine wpStill_want (by kernel_rfl) (fun K hK => ?_); go_simp; with_reducible refine hK _ ?_; clear hK K
              with_reducible refine wpStill_want (by kernel_rfl) (fun K hK => ?_); go_simp; with_reducible refine hK _ ?_; clear hK K
              refine wpStill_nil ?_
              gi_wp2_with (rw [Oper.semAt_eq _ _ _ (fun c h => by cases h)]; go_simp; try go_bits)
              exact DONE.out false ST2.out
          · have e1 : (q.1.toList == x.key.toList) = false := bytes_ne hk1
            have ST2 := Lib.hid (show smB Q1 NU (R ++ [(x.key, x.data)]) = false by rw [STEP.out, HST.out, hq, pair_dec, decide_eq_false hk1]; simp)
            clear hk1 hq
            gi_wp2_with fail
            refine wpW_region_tail 26 (by kernel_rfl) (by kernel_rfl) ?_
            simp only [List.take_succ_cons, List.take_zero, List.drop_succ_cons, List.drop_zero]
            rw [← hw9]
            clear hw9
            with_reducible refine wpStill_want (by kernel_rfl) (fun K hK => ?_); go_simp; with_reducible refine hK _ ?_; clear hK K
            with_reducible refine wpStill_want (by kernel_rfl) (fun K hK => ?_); go_simp; with_reducible refine hK _ ?_; clear hK K
            with_reducible refine wpStill_want (by kernel_rfl) (fun K hK => ?_); go_simp; with_reducible refine hK _ ?_; clear hK K
            with_reducible refine wpStill_want (by kernel_rfl) (fun K hK => ?_); go_simp; with_reducible refine hK _ ?_; clear hK K
            with_reducible refine wpStill_want (by kernel_rfl) (fun K hK => ?_); go_simp; with_reducible refine hK _ ?_; clear hK K
            with_reducible refine wpStill_want (by kernel_rfl) (fun K hK => ?_); go_simp; with_reducible refine hK _ ?_; clear hK K
            with_reducible refine wpStill_want (by kernel_rfl) (fun K hK => ?_); go_simp; with_reducible refine hK _ ?_; clear hK K
            with_reducible refine wpStill_want (by kernel_rfl) (fun K hK => ?_); go_simp; with_reducible refine hK _ ?_; clear hK K
            with_reducible refine wpStill_want (by kernel_rfl) (fun K hK => ?_); go_simp; with_reducible refine hK _ ?_; clear hK K
            with_reducible refine wpStill_want (by kernel_rfl) (fun K hK => ?_); go_simp; with_reducible refine hK _ ?_; clear hK K
            with_reducible refine wpStill_want (by kernel_rfl) (fun K hK => ?_); go_simp; with_reducible refine hK _ ?_; clear hK K
            with_reducible refine wpStill_want (by kernel_rfl) (fun K hK => ?_); go_simp; with_reducible refine hK _ ?_; clear hK K
            with_reducible refine wpStill_want (by kernel_rfl) (fun K hK => ?_); go_simp; with_reducible refine hK _ ?_; clear hK K
            with_reducible refine wpStill_want (by kernel_rfl) (fun K hK => ?_); go_simp; with_reducible refine hK _ ?_; clear hK K
            with_reducible refine wpStill_want (by kernel_rfl) (fun K hK => ?_); go_simp; with_reducible refine hK _ ?_; clear hK K
            with_reducible refine wpStill_want (by kernel_rfl) (fun K hK => ?_); go_simp; with_reducible refine hK _ ?_; clear hK K
            with_reducible refine wpStill_want (by kernel_rfl) (fun K hK => ?_); go_simp; with_reducible refine hK _ ?_; clear hK K
            with_reducible refine wpStill_pass (by kernel_rfl) (fun K hK => ?_); go_simp; with_reducible refine hK _ ?_; clear hK K
            with_reducible refine wpStill_pass (by kernel_rfl) (fun K hK => ?_); go_simp; with_reducible refine hK _ ?_; clear hK K
            with_reducible refine wpStill_pass (by kernel_rfl) (fun K hK => ?_); go_simp; with_reducible refine hK _ ?_; clear hK K
            with_reducible refine wpStill_pass (by kernel_rfl) (fun K hK => ?_); go_simp; with_reducible refine hK _ ?_; clear hK K
            with_reducible refine wpStill_pass (by kernel_rfl) (fun K hK => ?_); go_simp; with_reducible refine hK _ ?_; clear hK K
            with_reducible refine wpStill_pass (by kernel_rfl) (fun K hK => ?_); go_simp; with_reducible refine hK _ ?_; clear hK K
            with_reducible refine wpStill_pass (by kernel_rfl) (fun K hK => ?_); go_simp; with_reducible refine hK _ ?_; clear hK K
            with_reducible refine wpStill_pass (by kernel_rfl) (fun K hK => ?_); go_simp; with_reducible refine hK _ ?_; clear hK K
            with_reducible refine wpStill_want (by kernel_rfl) (fun K hK => ?_); go_simp; with_reducible refine hK _ ?_; clear hK K
            refine wpStill_nil ?_
            gi_wp2_with (rw [Oper.semAt_eq _ _ _ (fun c h => by cases h)]; go_simp; try go_bits)
            exact DONE.out false ST2.out
      · intro items dj U3 W13 hfull hi hkw hRd' hdj hdjn hdjU hUU hUn hUlt
        subst hfull
        obtain ⟨hbi, hbs, hUi, hUs, hne⟩ := hi
        have hQ2 : kvs (ordT m E2) = ordP m Q := by rw [← kvs_ordT HT2.out.1.keys, HT2.out.2.1]
        have hQl : (ordP m Q).length = NU := by rw [ordP_len, HNU.out.1]
        rw [hQ2, smB_all hQl] at hbs
        have k8 : Kept (fun b => b = ib ∨ b = sb) W8 W13 := ((KF.out.mono fun _ _ e => e.elim).trans (k10.mono (S' := fun b => b = ib ∨ b = sb) fun _ _ e => e.elim) (fun _ _ e => e)).trans hkw (fun _ _ e => e)
        have k313 : Kept (fun _ => False) w3 W13 := BI8.out.2.2.1.trans k8 (fun b hb e => by omega)
        obtain ⟨b81, b82, b83, b84, b85, b86, b87⟩ := B8.out
        have hdk13 := (k8.block dk (by omega) (fun e => by omega)).trans b84
        have hdjk : ib < dj := by have := k10.size; omega
        obtain ⟨fq, hfq⟩ : ∃ fq, decide (Q1 = ordP m Q) = fq := ⟨_, rfl⟩
        rw [hfq] at hbs
        have EQ := Lib.hid (show decide (snapB Q1 = snapB (ordP m Q)) = fq from by
          rw [← hfq]
          refine decide_eq_decide.2 ⟨fun e => ?_, fun e => by rw [e]⟩
          have hr := (rightB_iff _ _ _ _ _).1 HMR.out.1
          refine snapB_inj (K := m.ks.toNat) (V := m.vs.toNat) (fun p hp => ?_) (fun p hp => ?_) (by omega) e
          · rw [HLA.out.2] at hp
            have := ST.out.1.sizes p ((ordP_perm m P).mem_iff.1 hp)
            omega
          · have := SU.out.1.sizes p ((ordP_perm m Q).mem_iff.1 hp)
            omega)
        have SN1 := Lib.hid (show ∀ W', Kept (fun _ => False) W13 W' → Calls Tryz.prog 18 #[.pointer (some ⟨bt, 0, none⟩)] W' fun e w' => ∃ sv, e = .returned sv ∧ OwnBytes w' W' sv (snapB Q1) ∧ Kept (fun _ => False) W13 w' from by
          intro W' kk
          rw [HLA.out.2]
          refine (ses_snap (ST.out.1.keep (k313.trans kk (fun _ _ e => e)))).mono ?_
          rintro e w' ⟨sv, rfl, h1, h2⟩
          exact ⟨sv, rfl, h1, kk.trans h2 (fun _ _ e => e)⟩)
        have SN2 := Lib.hid (show ∀ W', Kept (fun _ => False) W13 W' → Calls Tryz.prog 18 #[.pointer (some ⟨bu, 0, none⟩)] W' fun e w' => ∃ sv, e = .returned sv ∧ OwnBytes w' W' sv (snapB (ordP m Q)) ∧ Kept (fun _ => False) W13 w' ∧ Kept (fun _ => False) W' w' from by
          intro W' kk
          refine (ses_snap (SU.out.1.keep (k313.trans kk (fun _ _ e => e)))).mono ?_
          rintro e w' ⟨sv, rfl, h1, h2⟩
          exact ⟨sv, rfl, h1, kk.trans h2 (fun _ _ e => e), h2⟩)
        have CELLS2 := Lib.hid (show ∀ w', Kept (fun _ => False) W13 w' → w'.cell? ⟨sb, 0, none⟩ = some (.bool fq) from fun w' kk => (hbs.kept kk (fun e => e)).cell)
        have FIN := Lib.hid (show W13.heap[dj]? = some (.deferred (some [])) ∧ W13.heap[dk]? = some (.deferred (some [])) ∧ Kept (fun _ => False) W W13 ∧ dj ≠ dk ∧ W.heap.size ≤ dj ∧ W.heap.size ≤ dk from
          ⟨hdj, hdk13, KW3.out.1.trans k313 (fun _ _ e => e), by omega, by have := KW3.out.1.size; omega, by have := KW3.out.1.size; have := HAB.out; omega⟩)
        generalize snapB Q1 = s1 at EQ SN1
        generalize snapB (ordP m Q) = s2 at EQ SN2
        clear hbi hbs hUi hUs hne hQ2 hQl k8 k313 b81 b82 b83 b84 b85 b86 b87 hdk13 hdjk hfq hkw hRd' hdj hdjn hdjU hUU hUn hUlt hRd hDl hb87 hz8 hsbl hzF bi10 hnf hbox hby bF10 k10
        gi_wp2_with fail
        refine wpW_region_held (S := fun w' => w'.cell? ⟨sb, 0, none⟩ = some (.bool fq)) (by kernel_rfl) (by kernel_rfl) (by rintro ⟨_, _, h⟩; first | exact h.elim | (obtain ⟨h1, -⟩ := h; cases h1)) ?_ (fun hHeld => ?_)
        · exact CELLS2.out _ ((Kept.refl _ _).twin ⟨rfl, rfl, rfl, rfl⟩)
        refine held_take 0 (oi := _) (v := ?_) rfl (by kernel_rfl) (by kernel_rfl) (by kernel_rfl) (fun _ _ _ h => h) (by rfl) (fun w hSw => ?_) (by assumption) ?_
        rotate_left
        · (try dsimp only at hSw); go_simp; try with_reducible rfl
        try simp only [Act.put, List.setIfInBounds_toArray, List.set_cons_zero, List.set_cons_succ]
        refine held_take 1 (oi := _) (v := ?_) rfl (by kernel_rfl) (by kernel_rfl) (by kernel_rfl) (fun _ _ _ h => h) (by rfl) (fun w hSw => ?_) (by assumption) ?_
        rotate_left
        · (try dsimp only at hSw); go_simp; try with_reducible rfl
        try simp only [Act.put, List.setIfInBounds_toArray, List.set_cons_zero, List.set_cons_succ]
        refine held_take 2 (oi := _) (v := ?_) rfl (by kernel_rfl) (by kernel_rfl) (by kernel_rfl) (fun _ _ _ h => h) (by rfl) (fun w hSw => ?_) (by assumption) ?_
        rotate_left
        · (try dsimp only at hSw); go_simp; try with_reducible rfl
        try simp only [Act.put, List.setIfInBounds_toArray, List.set_cons_zero, List.set_cons_succ]
        refine held_take 5 (oi := _) (v := ?_) rfl (by kernel_rfl) (by kernel_rfl) (by kernel_rfl) (fun _ _ _ h => h) (by rfl) (fun w hSw => ?_) (by assumption) ?_
        rotate_left
        · (try dsimp only at hSw); go_simp; try with_reducible rfl
        try simp only [Act.put, List.setIfInBounds_toArray, List.set_cons_zero, List.set_cons_succ]
        refine held_take 9 (oi := _) (v := ?_) rfl (by kernel_rfl) (by kernel_rfl) (by kernel_rfl) (fun _ _ _ h => h) (by rfl) (fun w hSw => ?_) (by assumption) ?_
        rotate_left
        · (try dsimp only at hSw); go_simp; try with_reducible rfl
        try simp only [Act.put, List.setIfInBounds_toArray, List.set_cons_zero, List.set_cons_succ]
        refine wpAnyH_ready (rs := [3]) (by kernel_rfl) (by simp) ?_
        refine held_cons 3 (o := _) rfl (fun KC hKC => ?_) AllReadyH.nil
        go_simp
        with_reducible refine Calls.mono (SN1.out _ ?_) ?_
        · exact (Kept.refl _ _).twin ⟨rfl, rfl, rfl, rfl⟩
        rintro e1 wA ⟨s1v, rfl, hs1, kA⟩
        obtain ⟨a1, c1, rfl, -, hy1, -⟩ := hs1.form
        have hcA := hy1.conv (c := c1)
        have Y1 := Lib.hid hy1
        have KA := Lib.hid kA
        clear hs1 hy1 kA
        dsimp only
        refine hKC.out _ _ ?_ (fun hHeld => ?_)
        · first | exact CELLS2.out _ KB.out | exact CELLS2.out _ KA.out
        clear hKC KC
        try simp only [Act.put, List.setIfInBounds_toArray, List.set_cons_zero, List.set_cons_succ]
        refine wpAnyH_ready (rs := [4, 6]) (by kernel_rfl) (by simp) ?_
        refine held_cons 4 (o := _) rfl (fun KC hKC => ?_) (held_cons 6 (o := _) rfl (fun KC hKC => ?_) AllReadyH.nil)
        ·
          go_simp
          refine hKC.out _ _ ?_ (fun hHeld => ?_)
          · first | exact CELLS2.out _ KB.out | exact CELLS2.out _ KA.out
          clear hKC KC
          try simp only [Act.put, List.setIfInBounds_toArray, List.set_cons_zero, List.set_cons_succ]
          refine wpAnyH_ready (rs := [6]) (by kernel_rfl) (by simp) ?_
          refine held_cons 6 (o := _) rfl (fun KC hKC => ?_) AllReadyH.nil
          go_simp
          with_reducible refine Calls.mono (SN2.out _ ?_) ?_
          · exact KA.out
          rintro e1 wB ⟨s2v, rfl, hs2, kB, kAB⟩
          obtain ⟨a2, c2, rfl, -, hy2, -⟩ := hs2.form
          have hcB1 := (Y1.out.kept kAB (fun _ _ _ e => e)).conv (c := c1)
          have hcB2 := hy2.conv (c := c2)
          have KB := Lib.hid kB
          clear hs2 hy2 kB kAB
          dsimp only
          refine hKC.out _ _ ?_ (fun hHeld => ?_)
          · first | exact CELLS2.out _ KB.out | exact CELLS2.out _ KA.out
          clear hKC KC
          try simp only [Act.put, List.setIfInBounds_toArray, List.set_cons_zero, List.set_cons_succ]
          refine wpAnyH_ready (rs := [7]) (by kernel_rfl) (by simp) ?_
          refine held_cons 7 (o := _) rfl (fun KC hKC => ?_) AllReadyH.nil
          go_simp
          refine hKC.out _ _ ?_ (fun hHeld => ?_)
          · first | exact CELLS2.out _ KB.out | exact CELLS2.out _ KA.out
          clear hKC KC
          try simp only [Act.put, List.setIfInBounds_toArray, List.set_cons_zero, List.set_cons_succ]
          refine held_take 8 (oi := _) (v := ?_) rfl (by kernel_rfl) (by kernel_rfl) (by kernel_rfl) (fun _ _ _ h => h) (by rfl) (fun w hSw => ?_) (by assumption) ?_
          rotate_left
          · (try dsimp only at hSw); go_simp; try with_reducible rfl
          try simp only [Act.put, List.setIfInBounds_toArray, List.set_cons_zero, List.set_cons_succ]
          refine held_take 10 (oi := _) (v := ?_) rfl (by kernel_rfl) (by kernel_rfl) (by kernel_rfl) (fun _ _ _ h => h) (by rfl) (fun w hSw => ?_) (by assumption) ?_
          rotate_left
          · (try dsimp only at hSw); go_simp; try with_reducible rfl
          try simp only [Act.put, List.setIfInBounds_toArray, List.set_cons_zero, List.set_cons_succ]
          refine held_take 11 (oi := _) (v := ?_) rfl (by kernel_rfl) (by kernel_rfl) (by kernel_rfl) (fun _ _ _ h => h) (by rfl) (fun w hSw => ?_) (by assumption) ?_
          rotate_left
          · (try dsimp only at hSw); go_simp; try with_reducible rfl
          try simp only [Act.put, List.setIfInBounds_toArray, List.set_cons_zero, List.set_cons_succ]
          refine held_take 12 (oi := _) (v := ?_) rfl (by kernel_rfl) (by kernel_rfl) (by kernel_rfl) (fun _ _ _ h => h) (by rfl) (fun w hSw => ?_) (by assumption) ?_
          rotate_left
          · (try dsimp only at hSw); go_simp; try with_reducible rfl
          try simp only [Act.put, List.setIfInBounds_toArray, List.set_cons_zero, List.set_cons_succ]
          refine wpAnyH_done (by kernel_rfl) (NoPanic.normal ?_) _
          gi_wp2_with fail
          obtain ⟨h1, h2, h3, h4, h5, h6⟩ := FIN.out
          refine leaves_marks [dj, dk] _ (by simp only [List.nodup_cons, List.mem_singleton, List.not_mem_nil, not_false_eq_true, List.nodup_nil, and_true]; omega) (fun d hd => ?_) (fun W' kd' => ?_)
          · rcases List.mem_cons.1 hd with rfl | hd
            · exact (KB.out.block _ (Array.getElem?_eq_some_iff.1 h1).1 (fun e => e)).trans h1
            · have e := List.mem_singleton.1 hd
              subst e
              exact (KB.out.block _ (Array.getElem?_eq_some_iff.1 h2).1 (fun e => e)).trans h2
          · refine ⟨_, results_tmp rfl _ _ _, ?_, ?_⟩
            · have e : ((s1.toList == s2.toList) == fq) = true := by
                rw [← EQ.out]
                by_cases h : s1 = s2
                · rw [h, bytes_self, decide_eq_true rfl]
                  rfl
                · rw [bytes_ne h, decide_eq_false h]
                  rfl
              rw [e]
              rfl
            · refine (h3.trans KB.out (fun _ _ e => e)).trans kd' (fun b hb e => ?_)
              rcases List.mem_cons.1 e with rfl | e
              · omega
              · have e := List.mem_singleton.1 e
                omega
        ·
          go_simp
          with_reducible refine Calls.mono (SN2.out _ ?_) ?_
          · exact KA.out
          rintro e1 wB ⟨s2v, rfl, hs2, kB, kAB⟩
          obtain ⟨a2, c2, rfl, -, hy2, -⟩ := hs2.form
          have hcB1 := (Y1.out.kept kAB (fun _ _ _ e => e)).conv (c := c1)
          have hcB2 := hy2.conv (c := c2)
          have KB := Lib.hid kB
          clear hs2 hy2 kB kAB
          dsimp only
          refine hKC.out _ _ ?_ (fun hHeld => ?_)
          · first | exact CELLS2.out _ KB.out | exact CELLS2.out _ KA.out
          clear hKC KC
          try simp only [Act.put, List.setIfInBounds_toArray, List.set_cons_zero, List.set_cons_succ]
          refine wpAnyH_ready (rs := [4, 7]) (by kernel_rfl) (by simp) ?_
          refine held_cons 4 (o := _) rfl (fun KC hKC => ?_) (held_cons 7 (o := _) rfl (fun KC hKC => ?_) AllReadyH.nil)
          ·
            go_simp
            refine hKC.out _ _ ?_ (fun hHeld => ?_)
            · first | exact CELLS2.out _ KB.out | exact CELLS2.out _ KA.out
            clear hKC KC
            try simp only [Act.put, List.setIfInBounds_toArray, List.set_cons_zero, List.set_cons_succ]
            refine wpAnyH_ready (rs := [7]) (by kernel_rfl) (by simp) ?_
            refine held_cons 7 (o := _) rfl (fun KC hKC => ?_) AllReadyH.nil
            go_simp
            refine hKC.out _ _ ?_ (fun hHeld => ?_)
            · first | exact CELLS2.out _ KB.out | exact CELLS2.out _ KA.out
            clear hKC KC
            try simp only [Act.put, List.setIfInBounds_toArray, List.set_cons_zero, List.set_cons_succ]
            refine held_take 8 (oi := _) (v := ?_) rfl (by kernel_rfl) (by kernel_rfl) (by kernel_rfl) (fun _ _ _ h => h) (by rfl) (fun w hSw => ?_) (by assumption) ?_
            rotate_left
            · (try dsimp only at hSw); go_simp; try with_reducible rfl
            try simp only [Act.put, List.setIfInBounds_toArray, List.set_cons_zero, List.set_cons_succ]
            refine held_take 10 (oi := _) (v := ?_) rfl (by kernel_rfl) (by kernel_rfl) (by kernel_rfl) (fun _ _ _ h => h) (by rfl) (fun w hSw => ?_) (by assumption) ?_
            rotate_left
            · (try dsimp only at hSw); go_simp; try with_reducible rfl
            try simp only [Act.put, List.setIfInBounds_toArray, List.set_cons_zero, List.set_cons_succ]
            refine held_take 11 (oi := _) (v := ?_) rfl (by kernel_rfl) (by kernel_rfl) (by kernel_rfl) (fun _ _ _ h => h) (by rfl) (fun w hSw => ?_) (by assumption) ?_
            rotate_left
            · (try dsimp only at hSw); go_simp; try with_reducible rfl
            try simp only [Act.put, List.setIfInBounds_toArray, List.set_cons_zero, List.set_cons_succ]
            refine held_take 12 (oi := _) (v := ?_) rfl (by kernel_rfl) (by kernel_rfl) (by kernel_rfl) (fun _ _ _ h => h) (by rfl) (fun w hSw => ?_) (by assumption) ?_
            rotate_left
            · (try dsimp only at hSw); go_simp; try with_reducible rfl
            try simp only [Act.put, List.setIfInBounds_toArray, List.set_cons_zero, List.set_cons_succ]
            refine wpAnyH_done (by kernel_rfl) (NoPanic.normal ?_) _
            gi_wp2_with fail
            obtain ⟨h1, h2, h3, h4, h5, h6⟩ := FIN.out
            refine leaves_marks [dj, dk] _ (by simp only [List.nodup_cons, List.mem_singleton, List.not_mem_nil, not_false_eq_true, List.nodup_nil, and_true]; omega) (fun d hd => ?_) (fun W' kd' => ?_)
            · rcases List.mem_cons.1 hd with rfl | hd
              · exact (KB.out.block _ (Array.getElem?_eq_some_iff.1 h1).1 (fun e => e)).trans h1
              · have e := List.mem_singleton.1 hd
                subst e
                exact (KB.out.block _ (Array.getElem?_eq_some_iff.1 h2).1 (fun e => e)).trans h2
            · refine ⟨_, results_tmp rfl _ _ _, ?_, ?_⟩
              · have e : ((s1.toList == s2.toList) == fq) = true := by
                  rw [← EQ.out]
                  by_cases h : s1 = s2
                  · rw [h, bytes_self, decide_eq_true rfl]
                    rfl
                  · rw [bytes_ne h, decide_eq_false h]
                    rfl
                rw [e]
                rfl
              · refine (h3.trans KB.out (fun _ _ e => e)).trans kd' (fun b hb e => ?_)
                rcases List.mem_cons.1 e with rfl | e
                · omega
                · have e := List.mem_singleton.1 e
                  omega
          ·
            go_simp
            refine hKC.out _ _ ?_ (fun hHeld => ?_)
            · first | exact CELLS2.out _ KB.out | exact CELLS2.out _ KA.out
            clear hKC KC
            try simp only [Act.put, List.setIfInBounds_toArray, List.set_cons_zero, List.set_cons_succ]
            refine wpAnyH_ready (rs := [4]) (by kernel_rfl) (by simp) ?_
            refine held_cons 4 (o := _) rfl (fun KC hKC => ?_) AllReadyH.nil
            go_simp
            refine hKC.out _ _ ?_ (fun hHeld => ?_)
            · first | exact CELLS2.out _ KB.out | exact CELLS2.out _ KA.out
            clear hKC KC
            try simp only [Act.put, List.setIfInBounds_toArray, List.set_cons_zero, List.set_cons_succ]
            refine held_take 8 (oi := _) (v := ?_) rfl (by kernel_rfl) (by kernel_rfl) (by kernel_rfl) (fun _ _ _ h => h) (by rfl) (fun w hSw => ?_) (by assumption) ?_
            rotate_left
            · (try dsimp only at hSw); go_simp; try with_reducible rfl
            try simp only [Act.put, List.setIfInBounds_toArray, List.set_cons_zero, List.set_cons_succ]
            refine held_take 10 (oi := _) (v := ?_) rfl (by kernel_rfl) (by kernel_rfl) (by kernel_rfl) (fun _ _ _ h => h) (by rfl) (fun w hSw => ?_) (by assumption) ?_
            rotate_left
            · (try dsimp only at hSw); go_simp; try with_reducible rfl
            try simp only [Act.put, List.setIfInBounds_toArray, List.set_cons_zero, List.set_cons_succ]
            refine held_take 11 (oi := _) (v := ?_) rfl (by kernel_rfl) (by kernel_rfl) (by kernel_rfl) (fun _ _ _ h => h) (by rfl) (fun w hSw => ?_) (by assumption) ?_
            rotate_left
            · (try dsimp only at hSw); go_simp; try with_reducible rfl
            try simp only [Act.put, List.setIfInBounds_toArray, List.set_cons_zero, List.set_cons_succ]
            refine held_take 12 (oi := _) (v := ?_) rfl (by kernel_rfl) (by kernel_rfl) (by kernel_rfl) (fun _ _ _ h => h) (by rfl) (fun w hSw => ?_) (by assumption) ?_
            rotate_left
            · (try dsimp only at hSw); go_simp; try with_reducible rfl
            try simp only [Act.put, List.setIfInBounds_toArray, List.set_cons_zero, List.set_cons_succ]
            refine wpAnyH_done (by kernel_rfl) (NoPanic.normal ?_) _
            gi_wp2_with fail
            obtain ⟨h1, h2, h3, h4, h5, h6⟩ := FIN.out
            refine leaves_marks [dj, dk] _ (by simp only [List.nodup_cons, List.mem_singleton, List.not_mem_nil, not_false_eq_true, List.nodup_nil, and_true]; omega) (fun d hd => ?_) (fun W' kd' => ?_)
            · rcases List.mem_cons.1 hd with rfl | hd
              · exact (KB.out.block _ (Array.getElem?_eq_some_iff.1 h1).1 (fun e => e)).trans h1
              · have e := List.mem_singleton.1 hd
                subst e
                exact (KB.out.block _ (Array.getElem?_eq_some_iff.1 h2).1 (fun e => e)).trans h2
            · refine ⟨_, results_tmp rfl _ _ _, ?_, ?_⟩
              · have e : ((s1.toList == s2.toList) == fq) = true := by
                  rw [← EQ.out]
                  by_cases h : s1 = s2
                  · rw [h, bytes_self, decide_eq_true rfl]
                    rfl
                  · rw [bytes_ne h, decide_eq_false h]
                    rfl
                rw [e]
                rfl
              · refine (h3.trans KB.out (fun _ _ e => e)).trans kd' (fun b hb e => ?_)
                rcases List.mem_cons.1 e with rfl | e
                · omega
                · have e := List.mem_singleton.1 e
                  omega
    ·
      go_simp
      first | refine alloc_abs (K := KC _) ?_ | refine alloc_absD (K := KC _) ?_
      intro wS kS hS
      obtain ⟨sb, hsb, hS⟩ := heap_name hS
      have TS := Lib.hid (show Kept (fun _ => False) W8 wS from by first | exact TA.out.trans kS (fun _ _ e => e) | exact kS)
      have SBL := Lib.hid (show W8.heap.size ≤ sb from by first | (rw [← hsb]; exact TA.out.size) | exact Nat.le_of_eq hsb)
      rw [hsb]
      have BSB := Lib.hid (box_heap hS)
      have KS := Lib.hid kS
      clear kS hS hsb
      refine hKC.out _ _ ?_ (fun hHeld => ?_)
      · first | exact CELLS.out _ (TS.out.trans (Kept.one_set wS ⟨sb, 0, none⟩ (.bool sm)) (fun b hb e => by have e : b = sb := e; have := SBL.out; omega)) | exact CELLS.out _ (TA.out.trans (Kept.one_set wA ⟨sb, 0, none⟩ (.bool sm)) (fun b hb e => by have e : b = sb := e; have := SBL.out; omega)) | exact CELLS.out _ TS.out | exact CELLS.out _ TA.out
      clear hKC KC
      try simp only [Act.put, List.setIfInBounds_toArray, List.set_cons_zero, List.set_cons_succ]
      refine wpAnyH_ready (rs := [1]) (by kernel_rfl) (by simp) ?_
      refine held_cons 1 (o := _) rfl (fun KC hKC => ?_) AllReadyH.nil
      go_simp
      with_reducible refine Calls.mono (LEN2.out _ (by first | exact TS.out | exact (Kept.refl _ _).twin ⟨rfl, rfl, rfl, rfl⟩)) ?_
      rintro e1 wA ⟨rfl, kA, kSA⟩
      have TA := Lib.hid kA
      have KSA := Lib.hid kSA
      clear kA kSA
      dsimp only
      refine hKC.out _ _ ?_ (fun hHeld => ?_)
      · first | exact CELLS.out _ (TS.out.trans (Kept.one_set wS ⟨sb, 0, none⟩ (.bool sm)) (fun b hb e => by have e : b = sb := e; have := SBL.out; omega)) | exact CELLS.out _ (TA.out.trans (Kept.one_set wA ⟨sb, 0, none⟩ (.bool sm)) (fun b hb e => by have e : b = sb := e; have := SBL.out; omega)) | exact CELLS.out _ TS.out | exact CELLS.out _ TA.out
      clear hKC KC
      try simp only [Act.put, List.setIfInBounds_toArray, List.set_cons_zero, List.set_cons_succ]
      refine held_take 2 (oi := _) (v := ?_) rfl (by kernel_rfl) (by kernel_rfl) (by kernel_rfl) (fun _ _ _ h => h) (by rfl) (fun w hSw => ?_) (by assumption) ?_
      rotate_left
      · (try dsimp only at hSw); go_simp; try with_reducible rfl
      try simp only [Act.put, List.setIfInBounds_toArray, List.set_cons_zero, List.set_cons_succ]
      refine held_take 5 (oi := _) (v := ?_) rfl (by kernel_rfl) (by kernel_rfl) (by kernel_rfl) (fun _ _ _ h => h) (by rfl) (fun w hSw => ?_) (by assumption) ?_
      rotate_left
      · (try dsimp only at hSw); go_simp; try with_reducible rfl
      try simp only [Act.put, List.setIfInBounds_toArray, List.set_cons_zero, List.set_cons_succ]
      refine wpAnyH_ready (rs := [7]) (by kernel_rfl) (by simp) ?_
      refine held_cons 7 (o := _) rfl (fun KC hKC => ?_) AllReadyH.nil
      go_simp
      have hfs : ∀ w', Box w' sb (.bool false) → w'.frozen? ⟨sb, 0, none⟩ = false := fun w' h => h.frozen
      first
        | (have hfb := (BSB.out.kept KSA.out (fun e => e)).frozen; have hcb := (BSB.out.kept KSA.out (fun e => e)).cell; go_simp)
        | (have hfb := BSB.out.frozen; have hcb := BSB.out.cell; go_simp)
      refine hKC.out _ _ ?_ (fun hHeld => ?_)
      · first | exact CELLS.out _ (TS.out.trans (Kept.one_set wS ⟨sb, 0, none⟩ (.bool sm)) (fun b hb e => by have e : b = sb := e; have := SBL.out; omega)) | exact CELLS.out _ (TA.out.trans (Kept.one_set wA ⟨sb, 0, none⟩ (.bool sm)) (fun b hb e => by have e : b = sb := e; have := SBL.out; omega)) | exact CELLS.out _ TS.out | exact CELLS.out _ TA.out
      clear hKC KC
      try simp only [Act.put, List.setIfInBounds_toArray, List.set_cons_zero, List.set_cons_succ]
      refine wpAnyH_done (by kernel_rfl) (NoPanic.normal ?_) _
      gi_wp2_with fail
      generalize hwF : World.setCell _ ⟨sb, 0, none⟩ (Value.bool sm) = wF
      have bF : Box wF sb (.bool sm) := by rw [← hwF]; first | exact (BSB.out.kept KSA.out (fun e => e)).set _ | exact BSB.out.set _
      have kF : Kept (fun _ => False) W8 wF := by
        rw [← hwF]
        first
          | exact TS.out.trans (Kept.one_set wS ⟨sb, 0, none⟩ _) (fun b hb e => by have e : b = sb := e; have := SBL.out; omega)
          | exact TA.out.trans (Kept.one_set wA ⟨sb, 0, none⟩ _) (fun b hb e => by have e : b = sb := e; have := SBL.out; omega)
      have BF := Lib.hid bF
      have KF := Lib.hid kF
      clear hwF bF kF hca hsm n2 n3
      refine callsIn_WR.2 ((all_any bu wF).mono ?_)
      rintro e w10 ⟨by', rfl, hbox, k10, hby⟩
      have hnf := run_eq_nilFunc (P := Tryz.prog) w10 (.func 39) #[] #[.pointer (some ⟨by', 0, none⟩)] Tryz.underlying42
      obtain ⟨iv2, E2, F2, hT2, hP2, hF2⟩ := SU.out.1
      have k310 : Kept (fun _ => False) w3 w10 := (BI8.out.2.2.1.trans KF.out (fun _ _ e => e)).trans k10 (fun _ _ e => e)
      have HT2 := Lib.hid (And.intro (hT2.kept k310 (fun _ _ e => e)) (And.intro hP2 (show ∀ b, Tfp bu E2 F2 b → b < w3.heap.size from fun b hb => (SU.out.2 b (hF2 b hb)).2)))
      have H10 := Lib.hid (And.intro hbox (And.intro k10 (And.intro hby (BF.out.kept k10 (fun e => e)))))
      clear hT2 hP2 hF2 k310 hbox k10 hby
      gi_wp2_with fail
      obtain ⟨hbox, k10, hby, bF10⟩ := H10.out
      have hRd : AllRd by' bu m iv2 E2 F2 w10 := ⟨hbox.cell, hbox.lt, HT2.out.1.allR⟩
      have hDl : ∀ b, AllD bu E2 F2 b → b < w3.heap.size := fun b hb => HT2.out.2.2 b (hb.imp id (fun h => h.imp id (fun ⟨x, hx, e⟩ => ⟨x, hx, .inl e⟩)))
      have hb87 := B8.out.2.2.2.2.2.2
      have hz8 := BI8.out.2.1
      have hsbl := SBL.out
      have hzF := KF.out.size
      have bi10 : Box w10 ib (.int .i64 0) := (BI8.out.1.kept KF.out (fun e => e)).kept k10 (fun e => e)
      refine wpW_rangeG (all1_any by' bu m iv2 E2 F2) rfl all_enters (fun _ => by rfl) (fun (pre : List En) U W' => SmI ib sb Q1 NU (kvs pre) U W') (fun _ _ _ => False) (fun b => b = ib ∨ b = sb)
        (fun (pre : List En) U W W' h k => SmI.kept h k) (fun _ _ _ _ h _ => h) ?_ ?_ ?_ hRd (fun W W' h k => h.kept k (fun e => e (.inl rfl)) (fun b hb e => e (.inr hb))) ⟨bi10, by rw [show kvs [] = [] from rfl, HSM.out]; exact bF10, .inl rfl, .inr rfl, by omega⟩ ?_ ?_ (fun _ _ _ _ h => h.elim)
      · rintro b hb (h | h)
        · have := BF.out.lt
          omega
        · have := hDl _ h
          omega
      · rintro b (rfl | h)
        · exact hbox.lt
        · exact hRd.2.2.dlt b h
      · rintro b (rfl | rfl)
        · exact bi10.lt
        · exact bF10.lt
      · intro l pre x rest U' W11 hitems hi hkw hlt' hD' hRd' hl hlD hlW hlw hUU
        have HLT := Lib.hid (And.intro hlt' (And.intro hl (And.intro hlW (And.intro hlw hkw))))
        have hpl : pre.length < NU := by
          have h1 := congrArg List.length hitems
          rw [(ordT_perm m E2).length_eq] at h1
          have h2 := congrArg List.length HT2.out.2.1
          rw [kvs_len] at h2
          simp at h1
          have := HNU.out.1
          omega
        have hmem : x ∈ E2 := (ordT_perm m E2).mem_iff.1 (by rw [← hitems]; simp)
        have hT11 : Tb W11 bu m iv2 E2 F2 := HT2.out.1.kept hkw (fun b hb e => by have := HT2.out.2.2 b hb; omega)
        have hlu : ¬ Tfp bu E2 F2 l := fun e => by have := HT2.out.2.2 l e; have := k10.size; omega
        have HT11 := Lib.hid (And.intro hT11 (And.intro hmem hlu))
        clear hlt' hD' hRd' hUU hkw hitems hRd hDl hnf hbox hby hT11 hmem hlu hlD hlw k10 bF10 bi10 hb87 hz8 hsbl hzF
        simp only [encE, List.zip_toArray, List.zip_cons_cons, List.zip_nil_left, List.foldl_toArray', List.foldl_cons, List.foldl_nil, List.setIfInBounds_toArray, List.set_cons_succ, List.set_cons_zero]
        gi_wp2_with (rw [Oper.semAt_eq _ _ _ (fun c h => by cases h)]; go_simp; try go_bits)
        refine ⟨trivial, ?_⟩
        intro W12 kl zl
        clear zl
        have hT12 : Tb W12 bu m iv2 E2 F2 := HT11.out.1.kept kl (fun b hb e => HT11.out.2.2 (by rw [← e]; exact hb))
        obtain ⟨R, hR⟩ : ∃ R, kvs pre = R := ⟨_, rfl⟩
        have hRl : R.length = pre.length := by rw [← hR, kvs_len]
        have hi2 : SmI ib sb Q1 NU R U' W12 := by rw [← hR]; exact SmI.kept hi (kl.mono fun b _ e h => by subst e; exact hl h)
        obtain ⟨hbi, hbs, hUi, hUs, hne⟩ := hi2
        have k8 : Kept (fun b => b = ib ∨ b = sb ∨ b = l) W8 W12 := ((KF.out.mono fun _ _ e => e.elim).trans (H10.out.2.1.mono (S' := fun b => b = ib ∨ b = sb ∨ b = l) fun _ _ e => e.elim) (fun _ _ e => e)).trans ((HLT.out.2.2.2.2.mono (S' := fun b => b = ib ∨ b = sb ∨ b = l) fun _ _ e => e.elim .inl (fun e => .inr (.inl e))).trans kl (fun b _ e => .inr (.inr e))) (fun _ _ e => e)
        have hlb : W8.heap.size ≤ l := Nat.le_trans (Nat.le_trans KF.out.size H10.out.2.1.size) HLT.out.2.2.2.1
        have hsb := SBL.out
        have hz8 := BI8.out.2.1
        have hab := BI8.out.2.2.2
        obtain ⟨b81, b82, b83, b84, b85, b86, b87⟩ := B8.out
        have ba := b81.kept k8 (fun e => by omega)
        have hrowA := ownsRow_kept b82 k8 (fun b e => by have := b83 b e; omega)
        obtain ⟨J, hJ⟩ : ∃ J, R.length * 2 = J := ⟨_, rfl⟩
        rw [hJ] at hbi
        obtain ⟨st, hst⟩ : ∃ st, smB Q1 NU R = st := ⟨_, rfl⟩
        rw [hst] at hbs
        have hJ0 : (J : Int) + 1 < 1000000 := by have := HNU.out.2; omega
        have n1 : IntKind.i64.wrap ((J : Int) + 1) = (J : Int) + 1 := IntWalk.i64_in _ (by omega)
        have n2 : IntKind.i64.wrap ((J : Int) + 2) = (J : Int) + 2 := IntWalk.i64_in _ (by omega)
        have n3 : wrap64 ((J : Int) + 1) = (J : Int) + 1 := IntWalk.wrap64_in _ (by omega)
        have n4 : wrap64 ((J : Int) + 2) = (J : Int) + 2 := IntWalk.wrap64_in _ (by omega)
        have n5 : (0 : Int) ≤ (J : Int) + 1 := by omega
        have HJ := Lib.hid (And.intro hJ (And.intro hR (And.intro hRl hpl)))
        have HST := Lib.hid hst
        have hx := hT12.en x HT11.out.2.1
        obtain ⟨w9, hw9, t9⟩ : ∃ w9, w9 = ({ W12 with drawn := W12.drawn + 1 } : World) ∧ Twin w9 W12 := ⟨_, rfl, rfl, rfl, rfl, rfl⟩
        have hci := (hbi.twin t9).cell
        have hfi := (hbi.twin t9).frozen
        have hcs := (hbs.twin t9).cell
        have hfs := (hbs.twin t9).frozen
        have hca := (ba.twin t9).cell
        have hcv := (hx.data.twin t9).conv (c := x.c)
        have hne2 : (sb == ib) = false := by rw [beq_eq_false_iff_ne]; exact fun e => hne e.symm
        have hne3 : ¬ sb = ib := fun e => hne e.symm
        have k129 : Kept (fun _ => False) W12 w9 := (Kept.refl _ _).twin t9
        have DONE := Lib.hid (show ∀ v : Bool, smB Q1 NU (R ++ [(x.key, x.data)]) = v →
            ((w9.setCell ⟨sb, 0, none⟩ (.bool v)).setCell ⟨ib, 0, none⟩ (.int .i64 ((J : Int) + 2))).heap[l]? = W12.heap[l]? ∧ ∃ U3, Grow (fun b => U' b ∨ b = l) (fun b => U3 b ∨ b = l) W11 ((w9.setCell ⟨sb, 0, none⟩ (.bool v)).setCell ⟨ib, 0, none⟩ (.int .i64 ((J : Int) + 2))) ∧ ¬ U3 l ∧ (∀ b, U' b → U3 b) ∧ SmI ib sb Q1 NU (kvs (pre ++ [x])) U3 ((w9.setCell ⟨sb, 0, none⟩ (.bool v)).setCell ⟨ib, 0, none⟩ (.int .i64 ((J : Int) + 2))) from fun v hv => by
          have kr : Kept U' W12 ((w9.setCell ⟨sb, 0, none⟩ (.bool v)).setCell ⟨ib, 0, none⟩ (.int .i64 ((J : Int) + 2))) := ((k129.mono (S' := U') fun _ _ e => e.elim).trans (Kept.one_set w9 ⟨sb, 0, none⟩ _) (fun b _ e => by have e : b = sb := e; rw [e]; exact hUs)).trans (Kept.one_set _ ⟨ib, 0, none⟩ _) (fun b _ e => by have e : b = ib := e; rw [e]; exact hUi)
          obtain ⟨e1, e2, e3, e4⟩ := round_plain (U := U') kl HLT.out.2.1 HLT.out.1 HLT.out.2.2.1 kr
          refine ⟨e1, _, e2, e3, e4, ?_⟩
          rw [kvs_snoc, HJ.out.2.1]
          refine ⟨?_, ?_, hUi, hUs, hne⟩
          · have h := ((hbi.twin t9).other (.bool v) hne).set (.int .i64 ((J : Int) + 2))
            rw [List.length_append, show ((R.length + [(x.key, x.data)].length) * 2 : Nat) = J + 2 by rw [← HJ.out.1]; show (R.length + 1) * 2 = _; omega]
            exact h
          · rw [hv]
            exact ((hbs.twin t9).set (.bool v)).other _ (fun e => hne e.symm))
        have STEP := Lib.hid (smB_step (Q1 := Q1) (NU := NU) (R := R) (p := (x.key, x.data)) (by omega))
        have ROW := Lib.hid (ownsRow_kept hrowA k129 (fun _ _ e => e))
        clear hT12 hbi hbs hUi hUs hne k8 hlb hsb hz8 hab b81 b82 b83 b84 b85 b86 b87 ba hJ hR hRl hpl hst hx t9 k129 kl hl hlW hi hrowA
        cases st with
        | false =>
          gi_wp2_with fail
          refine wpW_region_tail 26 (by kernel_rfl) (by kernel_rfl) ?_
          simp only [List.take_succ_cons, List.take_zero, List.drop_succ_cons, List.drop_zero]
          rw [← hw9]
          clear hw9
          with_reducible refine wpStill_want (by kernel_rfl) (fun K hK => ?_); go_simp; with_reducible refine hK _ ?_; clear hK K
          with_reducible refine wpStill_want (by kernel_rfl) (fun K hK => ?_); go_simp; with_reducible refine hK _ ?_; clear hK K
          with_reducible refine wpStill_pass (by kernel_rfl) (fun K hK => ?_); go_simp; with_reducible refine hK _ ?_; clear hK K
          with_reducible refine wpStill_pass (by kernel_rfl) (fun K hK => ?_); go_simp; with_reducible refine hK _ ?_; clear hK K
          with_reducible refine wpStill_pass (by kernel_rfl) (fun K hK => ?_); go_simp; with_reducible refine hK _ ?_; clear hK K
          with_reducible refine wpStill_pass (by kernel_rfl) (fun K hK => ?_); go_simp; with_reducible refine hK _ ?_; clear hK K
          with_reducible refine wpStill_pass (by kernel_rfl) (fun K hK => ?_); go_simp; with_reducible refine hK _ ?_; clear hK K
          with_reducible refine wpStill_want (by kernel_rfl) (fun K hK => ?_); go_simp; with_reducible refine hK _ ?_; clear hK K
          with_reducible refine wpStill_want (by kernel_rfl) (fun K hK => ?_); go_simp; with_reducible refine hK _ ?_; clear hK K
          with_reducible refine wpStill_pass (by kernel_rfl) (fun K hK => ?_); go_simp; with_reducible refine hK _ ?_; clear hK K
          with_reducible refine wpStill_pass (by kernel_rfl) (fun K hK => ?_); go_simp; with_reducible refine hK _ ?_; clear hK K
          with_reducible refine wpStill_pass (by kernel_rfl) (fun K hK => ?_); go_simp; with_reducible refine hK _ ?_; clear hK K
          with_reducible refine wpStill_pass (by kernel_rfl) (fun K hK => ?_); go_simp; with_reducible refine hK _ ?_; clear hK K
          with_reducible refine wpStill_pass (by kernel_rfl) (fun K hK => ?_); go_simp; with_reducible refine hK _ ?_; clear hK K
          with_reducible refine wpStill_pass (by kernel_rfl) (fun K hK => ?_); go_simp; with_reducible refine hK _ ?_; clear hK K
          with_reducible refine wpStill_want (by kernel_rfl) (fun K hK => ?_); go_simp; with_reducible refine hK _ ?_; clear hK K
          with_reducible refine wpStill_want (by kernel_rfl) (fun K hK => ?_); go_simp; with_reducible refine hK _ ?_; clear hK K
          with_reducible refine wpStill_pass (by kernel_rfl) (fun K hK => ?_); go_simp; with_reducible refine hK _ ?_; clear hK K
          with_reducible refine wpStill_pass (by kernel_rfl) (fun K hK => ?_); go_simp; with_reducible refine hK _ ?_; clear hK K
          with_reducible refine wpStill_pass (by kernel_rfl) (fun K hK => ?_); go_simp; with_reducible refine hK _ ?_; clear hK K
          with_reducible refine wpStill_pass (by kernel_rfl) (fun K hK => ?_); go_simp; with_reducible refine hK _ ?_; clear hK K
          with_reducible refine wpStill_pass (by kernel_rfl) (fun K hK => ?_); go_simp; with_reducible refine hK _ ?_; clear hK K
          with_reducible refine wpStill_pass (by kernel_rfl) (fun K hK => ?_); go_simp; with_reducible refine hK _ ?_; clear hK K
          with_reducible refine wpStill_pass (by kernel_rfl) (fun K hK => ?_); go_simp; with_reducible refine hK _ ?_; clear hK K
          with_reducible refine wpStill_pass (by kernel_rfl) (fun K hK => ?_); go_simp; with_reducible refine hK _ ?_; clear hK K
          with_reducible refine wpStill_want (by kernel_rfl) (fun K hK => ?_); go_simp; with_reducible refine hK _ ?_; clear hK K
          refine wpStill_nil ?_
          gi_wp2_with (rw [Oper.semAt_eq _ _ _ (fun c h => by cases h)]; go_simp; try go_bits)
          exact DONE.out false (by rw [STEP.out, HST.out]; rfl)
        | true =>
          obtain ⟨q, hq, hQN⟩ := smB_true HST.out (by rw [HJ.out.2.2.1]; exact HJ.out.2.2.2)
          obtain ⟨g1, g2⟩ := prV_at hq
          rw [HJ.out.1] at g1 g2
          obtain ⟨aa', ac', e, hga, -, -⟩ := own_form ROW.out
          have hJL : J + 1 < LA := by rw [HLA.out.1, hQN, ← HJ.out.1, HJ.out.2.2.1]; have := HJ.out.2.2.2; omega
          obtain ⟨ga, hga⟩ := hga (by omega)
          cases e
          subst hga
          have d1 := own_cell ROW.out g1
          have d2 := own_cell ROW.out g2
          have hJI : (J : Int) + 1 < (LA : Int) := by omega
          have hJI0 : (J : Int) < (LA : Int) := by omega
          have hdl : decide ((J : Int) + 1 < (LA : Int)) = true := decide_eq_true hJI
          clear g1 g2 hQN hJL
          by_cases hk1 : q.1 = x.key
          · by_cases hk2 : q.2 = x.data
            · have e1 : (q.1.toList == x.key.toList) = true := by rw [hk1]; exact bytes_self _
              have e2 : (q.2.toList == x.data.toList) = true := by rw [hk2]; exact bytes_self _
              have ST2 := Lib.hid (show smB Q1 NU (R ++ [(x.key, x.data)]) = true by rw [STEP.out, HST.out, hq, pair_dec, hk1, hk2]; simp)
              clear hk1 hk2 hq
              gi_wp2_with fail
              refine wpW_region_tail 26 (by kernel_rfl) (by kernel_rfl) ?_
              simp only [List.take_succ_cons, List.take_zero, List.drop_succ_cons, List.drop_zero]
              rw [← hw9]
              clear hw9
              with_reducible refine wpStill_want (by kernel_rfl) (fun K hK => ?_); go_simp; with_reducible refine hK _ ?_; clear hK K
              with_reducible refine wpStill_want (by kernel_rfl) (fun K hK => ?_); go_simp; with_reducible refine hK _ ?_; clear hK K
              with_reducible refine wpStill_want (by kernel_rfl) (fun K hK => ?_); go_simp; with_reducible refine hK _ ?_; clear hK K
              with_reducible refine wpStill_want (by kernel_rfl) (fun K hK => ?_); go_simp; with_reducible refine hK _ ?_; clear hK K
              with_reducible refine wpStill_want (by kernel_rfl) (fun K hK => ?_); go_simp; with_reducible refine hK _ ?_; clear hK K
              with_reducible refine wpStill_want (by kernel_rfl) (fun K hK => ?_); go_simp; with_reducible refine hK _ ?_; clear hK K
              with_reducible refine wpStill_want (by kernel_rfl) (fun K hK => ?_); go_simp; with_reducible refine hK _ ?_; clear hK K
              with_reducible refine wpStill_want (by kernel_rfl) (fun K hK => ?_); go_simp; with_reducible refine hK _ ?_; clear hK K
              with_reducible refine wpStill_want (by kernel_rfl) (fun K hK => ?_); go_simp; with_reducible refine hK _ ?_; clear hK K
              with_reducible refine wpStill_want (by kernel_rfl) (fun K hK => ?_); go_simp; with_reducible refine hK _ ?_; clear hK K
              with_reducible refine wpStill_want (by kernel_rfl) (fun K hK => ?_); go_simp; with_reducible refine hK _ ?_; clear hK K
              with_reducible refine wpStill_want (by kernel_rfl) (fun K hK => ?_); go_simp; with_reducible refine hK _ ?_; clear hK K
              with_reducible refine wpStill_want (by kernel_rfl) (fun K hK => ?_); go_simp; with_reducible refine hK _ ?_; clear hK K
              with_reducible refine wpStill_want (by kernel_rfl) (fun K hK => ?_); go_simp; with_reducible refine hK _ ?_; clear hK K
              with_reducible refine wpStill_want (by kernel_rfl) (fun K hK => ?_); go_simp; with_reducible refine hK _ ?_; clear hK K
              with_reducible refine wpStill_want (by kernel_rfl) (fun K hK => ?_); go_simp; with_reducible refine hK _ ?_; clear hK K
              with_reducible refine wpStill_want (by kernel_rfl) (fun K hK => ?_); go_simp; with_reducible refine hK _ ?_; clear hK K
              with_reducible refine wpStill_want (by kernel_rfl) (fun K hK => ?_); go_simp; with_reducible refine hK _ ?_; clear hK K
              with_reducible refine wpStill_want (by kernel_rfl) (fun K hK => ?_); go_simp; with_reducible refine hK _ ?_; clear hK K
              with_reducible refine wpStill_want (by kernel_rfl) (fun K hK => ?_); go_simp; with_reducible refine hK _ ?_; clear hK K
              with_reducible refine wpStill_want (by kernel_rfl) (fun K hK => ?_); go_simp; with_reducible refine hK _ ?_; clear hK K
              with_reducible refine wpStill_want (by kernel_rfl) (fun K hK => ?_); go_simp; with_reducible refine hK _ ?_; clear hK K
              with_reducible refine wpStill_want (by kernel_rfl) (fun K hK => ?_); go_simp; with_reducible refine hK _ ?_; clear hK K
              with_reducible refine wpStill_want (by kernel_rfl) (fun K hK => ?_); go_simp; with_reducible refine hK _ ?_; clear hK K
              with_reducible refine wpStill_want (by kernel_rfl) (fun K hK => ?_); go_simp; with_reducible refine hK _ ?_; clear hK K
              with_reducible refine wpStill_want (by kernel_rfl) (fun K hK => ?_); go_simp; with_reducible refine hK _ ?_; clear hK K
              refine wpStill_nil ?_
              gi_wp2_with (rw [Oper.semAt_eq _ _ _ (fun c h => by cases h)]; go_simp; try go_bits)
              exact DONE.out true ST2.out
            · have e1 : (q.1.toList == x.key.toList) = true := by rw [hk1]; exact bytes_self _
              have e2 : (q.2.toList == x.data.toList) = false := bytes_ne hk2
              have ST2 := Lib.hid (show smB Q1 NU (R ++ [(x.key, x.data)]) = false by rw [STEP.out, HST.out, hq, pair_dec, decide_eq_false hk2]; simp)
              clear hk1 hk2 hq
              gi_wp2_with fail
              refine wpW_region_tail 26 (by kernel_rfl) (by kernel_rfl) ?_
              simp only [List.take_succ_cons, List.take_zero, List.drop_succ_cons, List.drop_zero]
              rw [← hw9]
              clear hw9
              with_reducible refine wpStill_want (by kernel_rfl) (fun K hK => ?_); go_simp; with_reducible refine hK _ ?_; clear hK K
              with_reducible refine wpStill_want (by kernel_rfl) (fun K hK => ?_); go_simp; with_reducible refine hK _ ?_; clear hK K
              with_reducible refine wpStill_want (by kernel_rfl) (fun K hK => ?_); go_simp; with_reducible refine hK _ ?_; clear hK K
              with_reducible refine wpStill_want (by kernel_rfl) (fun K hK => ?_); go_simp; with_reducible refine hK _ ?_; clear hK K
              with_reducible refine wpStill_want (by kernel_rfl) (fun K hK => ?_); go_simp; with_reducible refine hK _ ?_; clear hK K
              with_reducible refine wpStill_want (by kernel_rfl) (fun K hK => ?_); go_simp; with_reducible refine hK _ ?_; clear hK K
              with_reducible refine wpStill_want (by kernel_rfl) (fun K hK => ?_); go_simp; with_reducible refine hK _ ?_; clear hK K
              with_reducible refine wpStill_want (by kernel_rfl) (fun K hK => ?_); go_simp; with_reducible refine hK _ ?_; clear hK K
              with_reducible refine wpStill_want (by kernel_rfl) (fun K hK => ?_); go_simp; with_reducible refine hK _ ?_; clear hK K
              with_reducible refine wpStill_want (by kernel_rfl) (fun K hK => ?_); go_simp; with_reducible refine hK _ ?_; clear hK K
              with_reducible refine wpStill_want (by kernel_rfl) (fun K hK => ?_); go_simp; with_reducible refine hK _ ?_; clear hK K
              with_reducible refine wpStill_want (by kernel_rfl) (fun K hK => ?_); go_simp; with_reducible refine hK _ ?_; clear hK K
              with_reducible refine wpStill_want (by kernel_rfl) (fun K hK => ?_); go_simp; with_reducible refine hK _ ?_; clear hK K
              with_reducible refine wpStill_want (by kernel_rfl) (fun K hK => ?_); go_simp; with_reducible refine hK _ ?_; clear hK K
              with_reducible refine wpStill_want (by kernel_rfl) (fun K hK => ?_); go_simp; with_reducible refine hK _ ?_; clear hK K
              with_reducible refine wpStill_want (by kernel_rfl) (fun K hK => ?_); go_simp; with_reducible refine hK _ ?_; clear hK K
              with_reducible refine wpStill_want (by kernel_rfl) (fun K hK => ?_); go_simp; with_reducible refine hK _ ?_; clear hK K
              with_reducible refine wpStill_want (by kernel_rfl) (fun K hK => ?_); go_simp; with_reducible refine hK _ ?_; clear hK K
              with_reducible refine wpStill_want (by kernel_rfl) (fun K hK => ?_); go_simp; with_reducible refine hK _ ?_; clear hK K
              with_reducible refine wpStill_want (by kernel_rfl) (fun K hK => ?_); go_simp; with_reducible refine hK _ ?_; clear hK K
              with_reducible refine wpStill_want (by kernel_rfl) (fun K hK => ?_); go_simp; with_reducible refine hK _ ?_; clear hK K
              with_reducible refine wpStill_want (by kernel_rfl) (fun K hK => ?_); go_simp; with_reducible refine hK _ ?_; clear hK K
              with_reducible refine wpStill_want (by kernel_rfl) (fun K hK => ?_); go_simp; with_reducible refine hK _ ?_; clear hK K
              with_reducible refine wpStill_want (by kernel_rfl) (fun K hK => ?_); go_simp; with_reducible refine hK _ ?_; clear hK K
              with_reducible refine wpStill_want (by kernel_rfl) (fun K hK => ?_); go_simp; with_reducible refine hK _ ?_; clear hK K
              with_reducible refine wpStill_want (by kernel_rfl) (fun K hK => ?_); go_simp; with_reducible refine hK _ ?_; clear hK K
              refine wpStill_nil ?_
              gi_wp2_with (rw [Oper.semAt_eq _ _ _ (fun c h => by cases h)]; go_simp; try go_bits)
              exact DONE.out false ST2.out
          · have e1 : (q.1.toList == x.key.toList) = false := bytes_ne hk1
            have ST2 := Lib.hid (show smB Q1 NU (R ++ [(x.key, x.data)]) = false by rw [STEP.out, HST.out, hq, pair_dec, decide_eq_false hk1]; simp)
            clear hk1 hq
            gi_wp2_with fail
            refine wpW_region_tail 26 (by kernel_rfl) (by kernel_rfl) ?_
            simp only [List.take_succ_cons, List.take_zero, List.drop_succ_cons, List.drop_zero]
            rw [← hw9]
            clear hw9
            with_reducible refine wpStill_want (by kernel_rfl) (fun K hK => ?_); go_simp; with_reducible refine hK _ ?_; clear hK K
            with_reducible refine wpStill_want (by kernel_rfl) (fun K hK => ?_); go_simp; with_reducible refine hK _ ?_; clear hK K
            with_reducible refine wpStill_want (by kernel_rfl) (fun K hK => ?_); go_simp; with_reducible refine hK _ ?_; clear hK K
            with_reducible refine wpStill_want (by kernel_rfl) (fun K hK => ?_); go_simp; with_reducible refine hK _ ?_; clear hK K
            with_reducible refine wpStill_want (by kernel_rfl) (fun K hK => ?_); go_simp; with_reducible refine hK _ ?_; clear hK K
            with_reducible refine wpStill_want (by kernel_rfl) (fun K hK => ?_); go_simp; with_reducible refine hK _ ?_; clear hK K
            with_reducible refine wpStill_want (by kernel_rfl) (fun K hK => ?_); go_simp; with_reducible refine hK _ ?_; clear hK K
            with_reducible refine wpStill_want (by kernel_rfl) (fun K hK => ?_); go_simp; with_reducible refine hK _ ?_; clear hK K
            with_reducible refine wpStill_want (by kernel_rfl) (fun K hK => ?_); go_simp; with_reducible refine hK _ ?_; clear hK K
            with_reducible refine wpStill_want (by kernel_rfl) (fun K hK => ?_); go_simp; with_reducible refine hK _ ?_; clear hK K
            with_reducible refine wpStill_want (by kernel_rfl) (fun K hK => ?_); go_simp; with_reducible refine hK _ ?_; clear hK K
            with_reducible refine wpStill_want (by kernel_rfl) (fun K hK => ?_); go_simp; with_reducible refine hK _ ?_; clear hK K
            with_reducible refine wpStill_want (by kernel_rfl) (fun K hK => ?_); go_simp; with_reducible refine hK _ ?_; clear hK K
            with_reducible refine wpStill_want (by kernel_rfl) (fun K hK => ?_); go_simp; with_reducible refine hK _ ?_; clear hK K
            with_reducible refine wpStill_want (by kernel_rfl) (fun K hK => ?_); go_simp; with_reducible refine hK _ ?_; clear hK K
            with_reducible refine wpStill_want (by kernel_rfl) (fun K hK => ?_); go_simp; with_reducible refine hK _ ?_; clear hK K
            with_reducible refine wpStill_want (by kernel_rfl) (fun K hK => ?_); go_simp; with_reducible refine hK _ ?_; clear hK K
            with_reducible refine wpStill_pass (by kernel_rfl) (fun K hK => ?_); go_simp; with_reducible refine hK _ ?_; clear hK K
            with_reducible refine wpStill_pass (by kernel_rfl) (fun K hK => ?_); go_simp; with_reducible refine hK _ ?_; clear hK K
            with_reducible refine wpStill_pass (by kernel_rfl) (fun K hK => ?_); go_simp; with_reducible refine hK _ ?_; clear hK K
            with_reducible refine wpStill_pass (by kernel_rfl) (fun K hK => ?_); go_simp; with_reducible refine hK _ ?_; clear hK K
            with_reducible refine wpStill_pass (by kernel_rfl) (fun K hK => ?_); go_simp; with_reducible refine hK _ ?_; clear hK K
            with_reducible refine wpStill_pass (by kernel_rfl) (fun K hK => ?_); go_simp; with_reducible refine hK _ ?_; clear hK K
            with_reducible refine wpStill_pass (by kernel_rfl) (fun K hK => ?_); go_simp; with_reducible refine hK _ ?_; clear hK K
            with_reducible refine wpStill_pass (by kernel_rfl) (fun K hK => ?_); go_simp; with_reducible refine hK _ ?_; clear hK K
            with_reducible refine wpStill_want (by kernel_rfl) (fun K hK => ?_); go_simp; with_reducible refine hK _ ?_; clear hK K
            refine wpStill_nil ?_
            gi_wp2_with (rw [Oper.semAt_eq _ _ _ (fun c h => by cases h)]; go_simp; try go_bits)
            exact DONE.out false ST2.out
      · intro items dj U3 W13 hfull hi hkw hRd' hdj hdjn hdjU hUU hUn hUlt
        subst hfull
        obtain ⟨hbi, hbs, hUi, hUs, hne⟩ := hi
        have hQ2 : kvs (ordT m E2) = ordP m Q := by rw [← kvs_ordT HT2.out.1.keys, HT2.out.2.1]
        have hQl : (ordP m Q).length = NU := by rw [ordP_len, HNU.out.1]
        rw [hQ2, smB_all hQl] at hbs
        have k8 : Kept (fun b => b = ib ∨ b = sb) W8 W13 := ((KF.out.mono fun _ _ e => e.elim).trans (k10.mono (S' := fun b => b = ib ∨ b = sb) fun _ _ e => e.elim) (fun _ _ e => e)).trans hkw (fun _ _ e => e)
        have k313 : Kept (fun _ => False) w3 W13 := BI8.out.2.2.1.trans k8 (fun b hb e => by omega)
        obtain ⟨b81, b82, b83, b84, b85, b86, b87⟩ := B8.out
        have hdk13 := (k8.block dk (by omega) (fun e => by omega)).trans b84
        have hdjk : ib < dj := by have := k10.size; omega
        obtain ⟨fq, hfq⟩ : ∃ fq, decide (Q1 = ordP m Q) = fq := ⟨_, rfl⟩
        rw [hfq] at hbs
        have EQ := Lib.hid (show decide (snapB Q1 = snapB (ordP m Q)) = fq from by
          rw [← hfq]
          refine decide_eq_decide.2 ⟨fun e => ?_, fun e => by rw [e]⟩
          have hr := (rightB_iff _ _ _ _ _).1 HMR.out.1
          refine snapB_inj (K := m.ks.toNat) (V := m.vs.toNat) (fun p hp => ?_) (fun p hp => ?_) (by omega) e
          · rw [HLA.out.2] at hp
            have := ST.out.1.sizes p ((ordP_perm m P).mem_iff.1 hp)
            omega
          · have := SU.out.1.sizes p ((ordP_perm m Q).mem_iff.1 hp)
            omega)
        have SN1 := Lib.hid (show ∀ W', Kept (fun _ => False) W13 W' → Calls Tryz.prog 18 #[.pointer (some ⟨bt, 0, none⟩)] W' fun e w' => ∃ sv, e = .returned sv ∧ OwnBytes w' W' sv (snapB Q1) ∧ Kept (fun _ => False) W13 w' from by
          intro W' kk
          rw [HLA.out.2]
          refine (ses_snap (ST.out.1.keep (k313.trans kk (fun _ _ e => e)))).mono ?_
          rintro e w' ⟨sv, rfl, h1, h2⟩
          exact ⟨sv, rfl, h1, kk.trans h2 (fun _ _ e => e)⟩)
        have SN2 := Lib.hid (show ∀ W', Kept (fun _ => False) W13 W' → Calls Tryz.prog 18 #[.pointer (some ⟨bu, 0, none⟩)] W' fun e w' => ∃ sv, e = .returned sv ∧ OwnBytes w' W' sv (snapB (ordP m Q)) ∧ Kept (fun _ => False) W13 w' ∧ Kept (fun _ => False) W' w' from by
          intro W' kk
          refine (ses_snap (SU.out.1.keep (k313.trans kk (fun _ _ e => e)))).mono ?_
          rintro e w' ⟨sv, rfl, h1, h2⟩
          exact ⟨sv, rfl, h1, kk.trans h2 (fun _ _ e => e), h2⟩)
        have CELLS2 := Lib.hid (show ∀ w', Kept (fun _ => False) W13 w' → w'.cell? ⟨sb, 0, none⟩ = some (.bool fq) from fun w' kk => (hbs.kept kk (fun e => e)).cell)
        have FIN := Lib.hid (show W13.heap[dj]? = some (.deferred (some [])) ∧ W13.heap[dk]? = some (.deferred (some [])) ∧ Kept (fun _ => False) W W13 ∧ dj ≠ dk ∧ W.heap.size ≤ dj ∧ W.heap.size ≤ dk from
          ⟨hdj, hdk13, KW3.out.1.trans k313 (fun _ _ e => e), by omega, by have := KW3.out.1.size; omega, by have := KW3.out.1.size; have := HAB.out; omega⟩)
        generalize snapB Q1 = s1 at EQ SN1
        generalize snapB (ordP m Q) = s2 at EQ SN2
        clear hbi hbs hUi hUs hne hQ2 hQl k8 k313 b81 b82 b83 b84 b85 b86 b87 hdk13 hdjk hfq hkw hRd' hdj hdjn hdjU hUU hUn hUlt hRd hDl hb87 hz8 hsbl hzF bi10 hnf hbox hby bF10 k10
        gi_wp2_with fail
        refine wpW_region_held (S := fun w' => w'.cell? ⟨sb, 0, none⟩ = some (.bool fq)) (by kernel_rfl) (by kernel_rfl) (by rintro ⟨_, _, h⟩; first | exact h.elim | (obtain ⟨h1, -⟩ := h; cases h1)) ?_ (fun hHeld => ?_)
        · exact CELLS2.out _ ((Kept.refl _ _).twin ⟨rfl, rfl, rfl, rfl⟩)
        refine held_take 0 (oi := _) (v := ?_) rfl (by kernel_rfl) (by kernel_rfl) (by kernel_rfl) (fun _ _ _ h => h) (by rfl) (fun w hSw => ?_) (by assumption) ?_
        rotate_left
        · (try dsimp only at hSw); go_simp; try with_reducible rfl
        try simp only [Act.put, List.setIfInBounds_toArray, List.set_cons_zero, List.set_cons_succ]
        refine held_take 1 (oi := _) (v := ?_) rfl (by kernel_rfl) (by kernel_rfl) (by kernel_rfl) (fun _ _ _ h => h) (by rfl) (fun w hSw => ?_) (by assumption) ?_
        rotate_left
        · (try dsimp only at hSw); go_simp; try with_reducible rfl
        try simp only [Act.put, List.setIfInBounds_toArray, List.set_cons_zero, List.set_cons_succ]
        refine held_take 2 (oi := _) (v := ?_) rfl (by kernel_rfl) (by kernel_rfl) (by kernel_rfl) (fun _ _ _ h => h) (by rfl) (fun w hSw => ?_) (by assumption) ?_
        rotate_left
        · (try dsimp only at hSw); go_simp; try with_reducible rfl
        try simp only [Act.put, List.setIfInBounds_toArray, List.set_cons_zero, List.set_cons_succ]
        refine held_take 5 (oi := _) (v := ?_) rfl (by kernel_rfl) (by kernel_rfl) (by kernel_rfl) (fun _ _ _ h => h) (by rfl) (fun w hSw => ?_) (by assumption) ?_
        rotate_left
        · (try dsimp only at hSw); go_simp; try with_reducible rfl
        try simp only [Act.put, List.setIfInBounds_toArray, List.set_cons_zero, List.set_cons_succ]
        refine held_take 9 (oi := _) (v := ?_) rfl (by kernel_rfl) (by kernel_rfl) (by kernel_rfl) (fun _ _ _ h => h) (by rfl) (fun w hSw => ?_) (by assumption) ?_
        rotate_left
        · (try dsimp only at hSw); go_simp; try with_reducible rfl
        try simp only [Act.put, List.setIfInBounds_toArray, List.set_cons_zero, List.set_cons_succ]
        refine wpAnyH_ready (rs := [3]) (by kernel_rfl) (by simp) ?_
        refine held_cons 3 (o := _) rfl (fun KC hKC => ?_) AllReadyH.nil
        go_simp
        with_reducible refine Calls.mono (SN1.out _ ?_) ?_
        · exact (Kept.refl _ _).twin ⟨rfl, rfl, rfl, rfl⟩
        rintro e1 wA ⟨s1v, rfl, hs1, kA⟩
        obtain ⟨a1, c1, rfl, -, hy1, -⟩ := hs1.form
        have hcA := hy1.conv (c := c1)
        have Y1 := Lib.hid hy1
        have KA := Lib.hid kA
        clear hs1 hy1 kA
        dsimp only
        refine hKC.out _ _ ?_ (fun hHeld => ?_)
        · first | exact CELLS2.out _ KB.out | exact CELLS2.out _ KA.out
        clear hKC KC
        try simp only [Act.put, List.setIfInBounds_toArray, List.set_cons_zero, List.set_cons_succ]
        refine wpAnyH_ready (rs := [4, 6]) (by kernel_rfl) (by simp) ?_
        refine held_cons 4 (o := _) rfl (fun KC hKC => ?_) (held_cons 6 (o := _) rfl (fun KC hKC => ?_) AllReadyH.nil)
        ·
          go_simp
          refine hKC.out _ _ ?_ (fun hHeld => ?_)
          · first | exact CELLS2.out _ KB.out | exact CELLS2.out _ KA.out
          clear hKC KC
          try simp only [Act.put, List.setIfInBounds_toArray, List.set_cons_zero, List.set_cons_succ]
          refine wpAnyH_ready (rs := [6]) (by kernel_rfl) (by simp) ?_
          refine held_cons 6 (o := _) rfl (fun KC hKC => ?_) AllReadyH.nil
          go_simp
          with_reducible refine Calls.mono (SN2.out _ ?_) ?_
          · exact KA.out
          rintro e1 wB ⟨s2v, rfl, hs2, kB, kAB⟩
          obtain ⟨a2, c2, rfl, -, hy2, -⟩ := hs2.form
          have hcB1 := (Y1.out.kept kAB (fun _ _ _ e => e)).conv (c := c1)
          have hcB2 := hy2.conv (c := c2)
          have KB := Lib.hid kB
          clear hs2 hy2 kB kAB
          dsimp only
          refine hKC.out _ _ ?_ (fun hHeld => ?_)
          · first | exact CELLS2.out _ KB.out | exact CELLS2.out _ KA.out
          clear hKC KC
          try simp only [Act.put, List.setIfInBounds_toArray, List.set_cons_zero, List.set_cons_succ]
          refine wpAnyH_ready (rs := [7]) (by kernel_rfl) (by simp) ?_
          refine held_cons 7 (o := _) rfl (fun KC hKC => ?_) AllReadyH.nil
          go_simp
          refine hKC.out _ _ ?_ (fun hHeld => ?_)
          · first | exact CELLS2.out _ KB.out | exact CELLS2.out _ KA.out
          clear hKC KC
          try simp only [Act.put, List.setIfInBounds_toArray, List.set_cons_zero, List.set_cons_succ]
          refine held_take 8 (oi := _) (v := ?_) rfl (by kernel_rfl) (by kernel_rfl) (by kernel_rfl) (fun _ _ _ h => h) (by rfl) (fun w hSw => ?_) (by assumption) ?_
          rotate_left
          · (try dsimp only at hSw); go_simp; try with_reducible rfl
          try simp only [Act.put, List.setIfInBounds_toArray, List.set_cons_zero, List.set_cons_succ]
          refine held_take 10 (oi := _) (v := ?_) rfl (by kernel_rfl) (by kernel_rfl) (by kernel_rfl) (fun _ _ _ h => h) (by rfl) (fun w hSw => ?_) (by assumption) ?_
          rotate_left
          · (try dsimp only at hSw); go_simp; try with_reducible rfl
          try simp only [Act.put, List.setIfInBounds_toArray, List.set_cons_zero, List.set_cons_succ]
          refine held_take 11 (oi := _) (v := ?_) rfl (by kernel_rfl) (by kernel_rfl) (by kernel_rfl) (fun _ _ _ h => h) (by rfl) (fun w hSw => ?_) (by assumption) ?_
          rotate_left
          · (try dsimp only at hSw); go_simp; try with_reducible rfl
          try simp only [Act.put, List.setIfInBounds_toArray, List.set_cons_zero, List.set_cons_succ]
          refine held_take 12 (oi := _) (v := ?_) rfl (by kernel_rfl) (by kernel_rfl) (by kernel_rfl) (fun _ _ _ h => h) (by rfl) (fun w hSw => ?_) (by assumption) ?_
          rotate_left
          · (try dsimp only at hSw); go_simp; try with_reducible rfl
          try simp only [Act.put, List.setIfInBounds_toArray, List.set_cons_zero, List.set_cons_succ]
          refine wpAnyH_done (by kernel_rfl) (NoPanic.normal ?_) _
          gi_wp2_with fail
          obtain ⟨h1, h2, h3, h4, h5, h6⟩ := FIN.out
          refine leaves_marks [dj, dk] _ (by simp only [List.nodup_cons, List.mem_singleton, List.not_mem_nil, not_false_eq_true, List.nodup_nil, and_true]; omega) (fun d hd => ?_) (fun W' kd' => ?_)
          · rcases List.mem_cons.1 hd with rfl | hd
            · exact (KB.out.block _ (Array.getElem?_eq_some_iff.1 h1).1 (fun e => e)).trans h1
            · have e := List.mem_singleton.1 hd
              subst e
              exact (KB.out.block _ (Array.getElem?_eq_some_iff.1 h2).1 (fun e => e)).trans h2
          · refine ⟨_, results_tmp rfl _ _ _, ?_, ?_⟩
            · have e : ((s1.toList == s2.toList) == fq) = true := by
                rw [← EQ.out]
                by_cases h : s1 = s2
                · rw [h, bytes_self, decide_eq_true rfl]
                  rfl
                · rw [bytes_ne h, decide_eq_false h]
                  rfl
              rw [e]
              rfl
            · refine (h3.trans KB.out (fun _ _ e => e)).trans kd' (fun b hb e => ?_)
              rcases List.mem_cons.1 e with rfl | e
              · omega
              · have e := List.mem_singleton.1 e
                omega
        ·
          go_simp
          with_reducible refine Calls.mono (SN2.out _ ?_) ?_
          · exact KA.out
          rintro e1 wB ⟨s2v, rfl, hs2, kB, kAB⟩
          obtain ⟨a2, c2, rfl, -, hy2, -⟩ := hs2.form
          have hcB1 := (Y1.out.kept kAB (fun _ _ _ e => e)).conv (c := c1)
          have hcB2 := hy2.conv (c := c2)
          have KB := Lib.hid kB
          clear hs2 hy2 kB kAB
          dsimp only
          refine hKC.out _ _ ?_ (fun hHeld => ?_)
          · first | exact CELLS2.out _ KB.out | exact CELLS2.out _ KA.out
          clear hKC KC
          try simp only [Act.put, List.setIfInBounds_toArray, List.set_cons_zero, List.set_cons_succ]
          refine wpAnyH_ready (rs := [4, 7]) (by kernel_rfl) (by simp) ?_
          refine held_cons 4 (o := _) rfl (fun KC hKC => ?_) (held_cons 7 (o := _) rfl (fun KC hKC => ?_) AllReadyH.nil)
          ·
            go_simp
            refine hKC.out _ _ ?_ (fun hHeld => ?_)
            · first | exact CELLS2.out _ KB.out | exact CELLS2.out _ KA.out
            clear hKC KC
            try simp only [Act.put, List.setIfInBounds_toArray, List.set_cons_zero, List.set_cons_succ]
            refine wpAnyH_ready (rs := [7]) (by kernel_rfl) (by simp) ?_
            refine held_cons 7 (o := _) rfl (fun KC hKC => ?_) AllReadyH.nil
            go_simp
            refine hKC.out _ _ ?_ (fun hHeld => ?_)
            · first | exact CELLS2.out _ KB.out | exact CELLS2.out _ KA.out
            clear hKC KC
            try simp only [Act.put, List.setIfInBounds_toArray, List.set_cons_zero, List.set_cons_succ]
            refine held_take 8 (oi := _) (v := ?_) rfl (by kernel_rfl) (by kernel_rfl) (by kernel_rfl) (fun _ _ _ h => h) (by rfl) (fun w hSw => ?_) (by assumption) ?_
            rotate_left
            · (try dsimp only at hSw); go_simp; try with_reducible rfl
            try simp only [Act.put, List.setIfInBounds_toArray, List.set_cons_zero, List.set_cons_succ]
            refine held_take 10 (oi := _) (v := ?_) rfl (by kernel_rfl) (by kernel_rfl) (by kernel_rfl) (fun _ _ _ h => h) (by rfl) (fun w hSw => ?_) (by assumption) ?_
            rotate_left
            · (try dsimp only at hSw); go_simp; try with_reducible rfl
            try simp only [Act.put, List.setIfInBounds_toArray, List.set_cons_zero, List.set_cons_succ]
            refine held_take 11 (oi := _) (v := ?_) rfl (by kernel_rfl) (by kernel_rfl) (by kernel_rfl) (fun _ _ _ h => h) (by rfl) (fun w hSw => ?_) (by assumption) ?_
            rotate_left
            · (try dsimp only at hSw); go_simp; try with_reducible rfl
            try simp only [Act.put, List.setIfInBounds_toArray, List.set_cons_zero, List.set_cons_succ]
            refine held_take 12 (oi := _) (v := ?_) rfl (by kernel_rfl) (by kernel_rfl) (by kernel_rfl) (fun _ _ _ h => h) (by rfl) (fun w hSw => ?_) (by assumption) ?_
            rotate_left
            · (try dsimp only at hSw); go_simp; try with_reducible rfl
            try simp only [Act.put, List.setIfInBounds_toArray, List.set_cons_zero, List.set_cons_succ]
            refine wpAnyH_done (by kernel_rfl) (NoPanic.normal ?_) _
            gi_wp2_with fail
            obtain ⟨h1, h2, h3, h4, h5, h6⟩ := FIN.out
            refine leaves_marks [dj, dk] _ (by simp only [List.nodup_cons, List.mem_singleton, List.not_mem_nil, not_false_eq_true, List.nodup_nil, and_true]; omega) (fun d hd => ?_) (fun W' kd' => ?_)
            · rcases List.mem_cons.1 hd with rfl | hd
              · exact (KB.out.block _ (Array.getElem?_eq_some_iff.1 h1).1 (fun e => e)).trans h1
              · have e := List.mem_singleton.1 hd
                subst e
                exact (KB.out.block _ (Array.getElem?_eq_some_iff.1 h2).1 (fun e => e)).trans h2
            · refine ⟨_, results_tmp rfl _ _ _, ?_, ?_⟩
              · have e : ((s1.toList == s2.toList) == fq) = true := by
                  rw [← EQ.out]
                  by_cases h : s1 = s2
                  · rw [h, bytes_self, decide_eq_true rfl]
                    rfl
                  · rw [bytes_ne h, decide_eq_false h]
                    rfl
                rw [e]
                rfl
              · refine (h3.trans KB.out (fun _ _ e => e)).trans kd' (fun b hb e => ?_)
                rcases List.mem_cons.1 e with rfl | e
                · omega
                · have e := List.mem_singleton.1 e
                  omega
          ·
            go_simp
            refine hKC.out _ _ ?_ (fun hHeld => ?_)
            · first | exact CELLS2.out _ KB.out | exact CELLS2.out _ KA.out
            clear hKC KC
            try simp only [Act.put, List.setIfInBounds_toArray, List.set_cons_zero, List.set_cons_succ]
            refine wpAnyH_ready (rs := [4]) (by kernel_rfl) (by simp) ?_
            refine held_cons 4 (o := _) rfl (fun KC hKC => ?_) AllReadyH.nil
            go_simp
            refine hKC.out _ _ ?_ (fun hHeld => ?_)
            · first | exact CELLS2.out _ KB.out | exact CELLS2.out _ KA.out
            clear hKC KC
            try simp only [Act.put, List.setIfInBounds_toArray, List.set_cons_zero, List.set_cons_succ]
            refine held_take 8 (oi := _) (v := ?_) rfl (by kernel_rfl) (by kernel_rfl) (by kernel_rfl) (fun _ _ _ h => h) (by rfl) (fun w hSw => ?_) (by assumption) ?_
            rotate_left
            · (try dsimp only at hSw); go_simp; try with_reducible rfl
            try simp only [Act.put, List.setIfInBounds_toArray, List.set_cons_zero, List.set_cons_succ]
            refine held_take 10 (oi := _) (v := ?_) rfl (by kernel_rfl) (by kernel_rfl) (by kernel_rfl) (fun _ _ _ h => h) (by rfl) (fun w hSw => ?_) (by assumption) ?_
            rotate_left
            · (try dsimp only at hSw); go_simp; try with_reducible rfl
            try simp only [Act.put, List.setIfInBounds_toArray, List.set_cons_zero, List.set_cons_succ]
            refine held_take 11 (oi := _) (v := ?_) rfl (by kernel_rfl) (by kernel_rfl) (by kernel_rfl) (fun _ _ _ h => h) (by rfl) (fun w hSw => ?_) (by assumption) ?_
            rotate_left
            · (try dsimp only at hSw); go_simp; try with_reducible rfl
            try simp only [Act.put, List.setIfInBounds_toArray, List.set_cons_zero, List.set_cons_succ]
            refine held_take 12 (oi := _) (v := ?_) rfl (by kernel_rfl) (by kernel_rfl) (by kernel_rfl) (fun _ _ _ h => h) (by rfl) (fun w hSw => ?_) (by assumption) ?_
            rotate_left
            · (try dsimp only at hSw); go_simp; try with_reducible rfl
            try simp only [Act.put, List.setIfInBounds_toArray, List.set_cons_zero, List.set_cons_succ]
            refine wpAnyH_done (by kernel_rfl) (NoPanic.normal ?_) _
            gi_wp2_with fail
            obtain ⟨h1, h2, h3, h4, h5, h6⟩ := FIN.out
            refine leaves_marks [dj, dk] _ (by simp only [List.nodup_cons, List.mem_singleton, List.not_mem_nil, not_false_eq_true, List.nodup_nil, and_true]; omega) (fun d hd => ?_) (fun W' kd' => ?_)
            · rcases List.mem_cons.1 hd with rfl | hd
              · exact (KB.out.block _ (Array.getElem?_eq_some_iff.1 h1).1 (fun e => e)).trans h1
              · have e := List.mem_singleton.1 hd
                subst e
                exact (KB.out.block _ (Array.getElem?_eq_some_iff.1 h2).1 (fun e => e)).trans h2
            · refine ⟨_, results_tmp rfl _ _ _, ?_, ?_⟩
              · have e : ((s1.toList == s2.toList) == fq) = true := by
                  rw [← EQ.out]
                  by_cases h : s1 = s2
                  · rw [h, bytes_self, decide_eq_true rfl]
                    rfl
                  · rw [bytes_ne h, decide_eq_false h]
                    rfl
                rw [e]
                rfl
              · refine (h3.trans KB.out (fun _ _ e => e)).trans kd' (fun b hb e => ?_)
                rcases List.mem_cons.1 e with rfl | e
                · omega
                · have e := List.mem_singleton.1 e
                  omega
end Go.Proofs.YtjkgimloafpipaaGreat
