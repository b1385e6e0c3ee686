/- What stands under the walks, part C. -/
import Derived.Test.YtdkcnigghcbnpaaGreatScanB
import Derived.Test.YtdkcnigghcbnpaaGreatPassA
import Derived.Test.YtdkcnigghcbnpaaGreatAppStr
/- scan.Keys: an iterator over a table's keys, rising. -/
namespace Go.Proofs.YtdkcnigghcbnpaaGreat
set_option linter.unusedVariables false
set_option linter.unusedSimpArgs false
open Go.RowKit Go.MapKept

/-- All keys, rising. -/
def keysP (P : List Pr) : List ByteArray := (pairsP P).map (·.1)
/-- What the iterator of Keys reads. -/
structure KyRd (tb bt : Nat) (m : TM) (iv : Value) (E : List En) (F : Nat → Prop) (W : World) : Prop where
  ct : W.cell? ⟨tb, 0, none⟩ = some (.pointer (some ⟨bt, 0, none⟩))
  lt1 : tb < W.heap.size
  tbl : Tb W bt m iv E F
def KyD (tb bt : Nat) (E : List En) (F : Nat → Prop) (b : Nat) : Prop := b = tb ∨ Tfp bt E F b
section
variable {tb bt : Nat} {m : TM} {iv : Value} {E : List En} {F : Nat → Prop} {W W' : World} {S : Nat → Prop}
theorem KyRd.kept (h : KyRd tb bt m iv E F W) (k : Kept S W W') (hS : ∀ b, KyD tb bt E F b → ¬ S b) : KyRd tb bt m iv E F W' :=
  ⟨(k.cell (p := ⟨tb, 0, none⟩) h.lt1 (hS _ (.inl rfl))).trans h.ct, Nat.lt_of_lt_of_le h.lt1 k.size, h.tbl.kept k (fun b hb => hS b (.inr hb))⟩
theorem KyRd.dlt (h : KyRd tb bt m iv E F W) : ∀ b, KyD tb bt E F b → b < W.heap.size := by
  rintro b (rfl | hb)
  · exact h.lt1
  · exact h.tbl.lt b hb
end
theorem above_all (P : List Pr) : aboveP ⟨#[]⟩ true P = pairsP P := by
  unfold aboveP
  rw [List.filter_eq_self]
  intro a _
  rfl

theorem filterMap_keys : ∀ Q : List Pr, Q.filterMap (fun p : Pr => some p.1) = Q.map (·.1)
  | [] => rfl
  | q :: Q => by
    have ih := filterMap_keys Q
    simp
set_option maxRecDepth 100000 in
set_option maxHeartbeats 2000000 in
theorem keys1_any (tb bt : Nat) (m : TM) (iv : Value) (E : List En) (F : Nat → Prop) :
    IterG Tryz.prog 52 #[.pointer (some ⟨tb, 0, none⟩)] (fun k : ByteArray => #[.string k]) (fun l => l = keysP (kvs E)) (KyD tb bt E F) (KyRd tb bt m iv E F) := by
  intro l J Jx U W hJ hJx hY h0 hD hlt hR
  have hct := hR.ct
  refine callsIn_of_wp_marks Tryz.func52 rfl trivial ?_ rfl
  simp only [Tryz.ntmps52, List.size_toArray, List.length_cons, List.length_nil, Nat.reduceAdd, Nat.reduceSub, Array.replicate_succ, Array.replicate_zero, List.push_toArray, List.append_toArray, List.nil_append, List.cons_append]
  have ka := Kept.one_alloc W (.cells #[.func (.yield l) #[] #[]] 104)
  have d0 := (ka.cell (p := ⟨tb, 0, none⟩) hR.lt1 (fun e => e)).trans hct
  have hRk := hR.kept ka (fun _ _ e => e)
  have hyb := Box.new W (.func (.yield l) #[] #[]) 104
  obtain ⟨W1, hW1⟩ : ∃ W1, W1 = W.alloc (.cells #[.func (.yield l) #[] #[]] 104) := ⟨_, rfl⟩
  rw [← hW1] at ka hRk hyb
  have hab := above_any hRk.tbl ⟨#[]⟩ true
  have HAB := Lib.hid hab
  have HR := Lib.hid hR
  have HD := Lib.hid hD
  have HLT := Lib.hid hlt
  have H0 := Lib.hid h0
  have HKA := Lib.hid (And.intro ka (And.intro hyb hRk))
  have HW1 := Lib.hid hW1
  clear hct hR hD hlt h0 hab ka hRk hyb hW1
  gi_wp2_with fail
  rw [← HW1.out]
  refine callsIn_WR.2 (HAB.out.mono ?_)
  rintro e W2 ⟨ta, fa, aa, rfl, hrd2, k2, h1, h2, h3⟩
  obtain ⟨yb, hyb'⟩ : ∃ yb, W.heap.size = yb := ⟨_, rfl⟩
  rw [hyb'] at HKA ⊢
  have HYB := Lib.hid hyb'
  have K2 := Lib.hid (And.intro k2 (And.intro h1 (And.intro h2 h3)))
  have HIT := Lib.hid hrd2
  clear hyb' hrd2 k2 d0 HAB HW1 h1 h2 h3
  gi_wp2_with fail
  have hrd2 := HIT.out
  obtain ⟨k2, h1, h2, h3⟩ := K2.out
  have hyb := HKA.out.2.1.kept k2 (fun e => e)
  have k02 : Kept (fun _ => False) W W2 := HKA.out.1.trans k2 (fun _ _ e => e)
  have hsz1 := HKA.out.1.size
  have hyl := HKA.out.2.1.lt
  have hit := above1_any ta fa aa bt m iv E F ⟨#[]⟩ true
  rw [above_all] at hit
  refine wpW_passA (fn := Tryz.f52) (OFull := fun l => l = keysP (kvs E)) (oencs := fun k : ByteArray => #[.string k]) hit (by rfl) above_enters (fun _ => by rfl) (by rfl) (fun p : Pr => some p.1) hJ hJx hY (fun xs e => ?_) (hJ _ _ _ _ H0.out (k02.mono fun _ _ e => e.elim)) (k02.mono fun _ _ e => e.elim) HLT.out HD.out HR.out.dlt HR.out (fun W W' h k => h.kept k (fun b hb e => e hb)) (fun b => b = yb) ?_ (fun W => Box W yb (.func (.yield l) #[] #[])) hyb ?_ ?_ hrd2 (fun W W' h k => h.kept k (fun b hb e => e hb)) (fun _ _ h => h) (fun _ _ h => h) ?_
  · rw [e]
    unfold keysP
    exact filterMap_keys _
  · rintro b rfl
    exact ⟨by have := HYB.out; omega, hyb.lt⟩
  · exact fun W W' h k => h.kept k (fun e => e rfl)
  · intro b hb
    have hy := HYB.out
    have hd := hrd2.dlt b hb
    rcases hb with rfl | rfl | rfl | hb
    · exact ⟨hd, fun hu => by have := HLT.out _ hu; omega, fun e => by omega⟩
    · exact ⟨hd, fun hu => by have := HLT.out _ hu; omega, fun e => by omega⟩
    · exact ⟨hd, fun hu => by have := HLT.out _ hu; omega, fun e => by omega⟩
    · exact ⟨hd, fun hu => HD.out b hu (.inr hb), fun e => by have := HR.out.dlt b (.inr hb); omega⟩
  · intro l' pre p rest U' W3 hitems hl' hU' hnl
    have HU := Lib.hid hU'
    have HNL := Lib.hid hnl
    clear hyb hrd2 hit k2 k02 hitems hU' hnl
    simp only [encPr, List.zip_toArray, List.zip_cons_cons, List.zip_nil_left, List.foldl_toArray', List.foldl_cons, List.foldl_nil, List.setIfInBounds_toArray, List.set_cons_succ, List.set_cons_zero]
    gi_wp2_with (rw [Oper.semAt_eq _ _ _ (fun c h => by cases h)]; go_simp; try go_bits)
    refine ⟨Kept.one_alloc W3 _, ?_⟩
    intro W4 kl zl hxr hrd hord hj hy
    obtain ⟨gx, hgx⟩ : ∃ gx, gx = W3.heap.size := ⟨_, rfl⟩
    have hx0 : W4.cell? ⟨gx, 0, none⟩ = some (.string p.1) := by rw [hgx]; exact (kl.cell (p := ⟨W3.heap.size, 0, none⟩) (by simp) (by show ¬ (W3.heap.size = l'); omega)).trans (by simp)
    rw [← hgx]
    obtain ⟨fn, tmps, assign, body, hyy, hRR⟩ := hy p.1 rfl W4 (.refl _ _) rfl
    have hcy := hxr.cell
    clear hj hy hord hxr hrd hgx kl zl
    gi_wp2_with (rw [Oper.semAt_eq _ _ _ (fun c h => by cases h)]; go_simp; try go_bits)
    refine hRR.mono ?_
    rintro e W6 ⟨U6, g6, (⟨rfl, hj6⟩ | ⟨rfl, hj6⟩)⟩
    all_goals
      have H6 := Lib.hid (And.intro g6 hj6)
      clear hyy hRR g6 hj6 hcy hx0
      gi_wp2_with (rw [Oper.semAt_eq _ _ _ (fun c h => by cases h)]; go_simp; try go_bits)
    · refine ⟨U6, H6.out.1, ?_⟩
      have := H6.out.2
      rw [List.filterMap_append]
      exact this
    · exact ⟨U6, H6.out.1, H6.out.2⟩

set_option maxRecDepth 100000 in
theorem keys_any {bt : Nat} {m : TM} {iv : Value} {E : List En} {F : Nat → Prop} {W : World} (hT : Tb W bt m iv E F) :
    Calls Tryz.prog 28 #[.pointer (some ⟨bt, 0, none⟩)] W fun e w' => ∃ tb, e = .returned (.func (.func 52) #[] #[.pointer (some ⟨tb, 0, none⟩)]) ∧ KyRd tb bt m iv E F w' ∧ Kept (fun _ => False) W w' ∧ W.heap.size ≤ tb := by
  refine Calls.mono (R := fun e w' => e = .returned (.func (.func 52) #[] #[.pointer (some ⟨W.heap.size, 0, none⟩)]) ∧ w' = W.alloc (.cells #[.pointer (some ⟨bt, 0, none⟩)] 24)) ?_ ?_
  · clear hT
    go_enter Tryz.func28, Tryz.ntmps28
    go_wp2_with fail
    go_ret
    exact ⟨rfl, rfl⟩
  · rintro e w' ⟨rfl, rfl⟩
    have k1 := Kept.one_alloc W (.cells #[.pointer (some ⟨bt, 0, none⟩)] 24)
    have b1 := Box.new W (.pointer (some ⟨bt, 0, none⟩)) 24
    exact ⟨W.heap.size, rfl, ⟨b1.cell, b1.lt, hT.kept k1 (fun _ _ e => e)⟩, k1, Nat.le_refl _⟩
theorem keys_enters (args : Array Value) (w : World) : (callFunc 52 args).run Tryz.prog w = .ok (.enter 52 args) w := by
  exact enters_body Tryz.func52 (by kernel_rfl) rfl args w
end Go.Proofs.YtdkcnigghcbnpaaGreat

/- scan.Snapshot: a table as bytes. -/
namespace Go.Proofs.YtdkcnigghcbnpaaGreat
set_option linter.unusedVariables false
set_option linter.unusedSimpArgs false
open Go.RowKit Go.MapKept

theorem strCells_vs (s : ByteArray) : Lib.strCells s = byteVs s := by
  unfold Lib.strCells byteVs nums
  rw [List.map_map]
  rfl
theorem vs_snoc (A : List Pr) (p : Pr) : byteVs (snapB (A ++ [p])) = byteVs (snapB A) ++ byteVs p.1 ++ byteVs p.2 := by
  rw [← strCells_vs, ← strCells_vs, ← strCells_vs, ← strCells_vs]
  unfold Lib.strCells snapB
  rw [snapL_append]
  simp [snapL]
theorem snapB_snoc_size (A : List Pr) (p : Pr) : (snapB (A ++ [p])).size = (snapB A).size + p.1.size + p.2.size := by
  have h := congrArg List.length (vs_snoc A p)
  simp only [List.length_append, byteVs_len] at h
  exact h

set_option maxRecDepth 100000 in
set_option maxHeartbeats 2000000 in
theorem snap_any {bt : Nat} {m : TM} {iv : Value} {E : List En} {F : Nat → Prop} {W : World} (hT : Tb W bt m iv E F) :
    Calls Tryz.prog 16 #[.pointer (some ⟨bt, 0, none⟩)] W fun e w' => ∃ sv, e = .returned sv ∧ w'.ownsRow 0 5 1 sv (snapB (kvs (ordT m E))).size (byteVs (snapB (kvs (ordT m E)))) ∧ (∀ b, sv.ownBlock = some b → W.heap.size ≤ b) ∧ Kept (fun _ => False) W w' := by
  refine callsIn_WR (ro := none) (n := 0).1 (callsIn_of_wp_marks Tryz.func16 rfl trivial ?_ rfl)
  simp only [Tryz.ntmps16, List.size_toArray, List.length_cons, List.length_nil, Nat.reduceAdd, Nat.reduceSub, Array.replicate_succ, Array.replicate_zero, List.push_toArray, List.append_toArray, List.nil_append, List.cons_append]
  have HT := Lib.hid hT
  clear hT
  gi_wp2_with fail
  obtain ⟨W1, hW1⟩ : ∃ W1, W1 = W.alloc (.cells #[.slice none 0 0] 28) := ⟨_, rfl⟩
  have k1 : Kept (fun _ => False) W W1 := by rw [hW1]; exact Kept.one_alloc W _
  have hsb : Box W1 W.heap.size (.slice none 0 0) := by rw [hW1]; exact Box.new W _ _
  obtain ⟨sb, hsb'⟩ : ∃ sb, W.heap.size = sb := ⟨_, rfl⟩
  rw [← hW1, hsb']
  rw [hsb'] at hsb
  have HSB := Lib.hid hsb'
  have HK1 := Lib.hid (And.intro k1 hsb)
  clear hW1 hsb' k1 hsb
  refine callsIn_WR.2 ((all_any bt W1).mono ?_)
  rintro e W2 ⟨bx, rfl, hbox, k2, hbxn⟩
  have k12 : Kept (fun _ => False) W W2 := HK1.out.1.trans k2 (fun _ _ e => e)
  have hT2 := HT.out.kept k12 (fun _ _ e => e)
  have hsb2 := HK1.out.2.kept k2 (fun e => e)
  have hsl := hsb2.lt
  have hne : bx ≠ sb := fun e => by have := HSB.out; have := HK1.out.2.lt; omega
  have hnf := run_eq_nilFunc (P := Tryz.prog) W2 (.func 49) #[] #[.pointer (some ⟨bx, 0, none⟩)] Tryz.underlying39
  have hlen : E.length ≤ 1024 := hT2.allR.small
  have HT2 := Lib.hid (And.intro hT2 (And.intro k12 hbox))
  have HNE := Lib.hid (And.intro hne (And.intro hbxn hlen))
  have HB := Lib.hid hsb2
  clear hT2 k2 k12 hbox hne hbxn hsb2 hlen
  gi_wp2_with fail
  obtain ⟨hT2, k12, hbox⟩ := HT2.out
  obtain ⟨hne, hbxn, hlen⟩ := HNE.out
  have hz12 := k12.size
  have hsbw := HSB.out
  have hRd : AllRd bx bt m iv E F W2 := ⟨hbox.cell, hbox.lt, hT2.allR⟩
  have hAD : ∀ b, AllD bt E F b → b < W.heap.size := HT.out.allR.dlt
  refine wpW_rangeG (all1_any bx bt m iv E F) rfl all_enters (fun _ => by rfl) (fun (pre : List En) U W' => Coll sb 5 1 (snapB (kvs pre)).size (byteVs (snapB (kvs pre))) U W' ∧ ∀ b, U b → W.heap.size ≤ b) (fun _ _ _ => False) (fun b => b = sb)
    (fun (pre : List En) U W W' h k => ⟨Coll.kept h.1 k, h.2⟩) (fun _ _ _ _ h _ => h) ?_ ?_ ?_ hRd (fun W W' h k => h.kept k (fun e => e (.inl rfl)) (fun b hb e => e (.inr hb))) ⟨Coll.start HB.out rfl, fun b e => by rw [e]; omega⟩ ?_ ?_ (fun _ _ _ _ h => h.elim)
  · rintro b rfl (h | h)
    · exact hne h.symm
    · have := hAD _ h
      omega
  · rintro b (rfl | h)
    · exact hbox.lt
    · exact hT2.allR.dlt b h
  · rintro b rfl
    exact hsl
  · intro l pre x rest U' W3 hitems hi hkw hlt' hD' hRd' hl hlD hlW hlw hUU
    have hmem : ∀ y ∈ pre, y ∈ E := fun y hy => (ordT_perm m E).mem_iff.1 (by rw [← hitems]; simp [hy])
    have hx : x ∈ E := (ordT_perm m E).mem_iff.1 (by rw [← hitems]; simp)
    have hpl : pre.length < 1024 := by
      have h1 := (ordT_perm m E).length_eq
      rw [← hitems] at h1
      simp at h1
      omega
    have hr := (rightB_iff _ _ _ _ _).1 hT2.right
    have hbig : (snapB (kvs pre)).size + x.key.size + x.data.size ≤ 400000 := by
      have h1 : (snapB (kvs pre)).size = (kvs pre).length * (m.ks.toNat + m.vs.toNat) := snapB_size fun p hp => by
        unfold kvs at hp
        obtain ⟨y, hy, rfl⟩ := List.mem_map.1 hp
        have := HT.out.size y (hmem y hy)
        constructor
        · show y.key.size = _; omega
        · show y.data.size = _; omega
      have h2 := HT.out.size x hx
      have h3 : (kvs pre).length * (m.ks.toNat + m.vs.toNat) ≤ 1024 * 320 := Nat.mul_le_mul (by rw [kvs_len]; omega) (by omega)
      omega
    have hT3 : Tb W3 bt m iv E F := hT2.kept hkw (fun b hb e => by have := HT.out.lt b hb; omega)
    have LT := Lib.hid hlt'
    have HX := Lib.hid (And.intro hT3 hx)
    have HI := Lib.hid hi.1
    have HNEW := Lib.hid hi.2
    have HL := Lib.hid hl
    have HLN : l ≠ bt ∧ W.heap.size ≤ l := ⟨fun e => by have := HT.out.lt bt (.inl rfl); omega, by omega⟩
    have HLD := Lib.hid HLN
    clear hlt' hD' hRd' hUU hkw hitems hi hl hlD hx hT3 hRd hAD hT2 k12 hbox hnf HLN hlw hbxn hlen hmem hr hpl
    simp only [encE, List.zip_toArray, List.zip_cons_cons, List.zip_nil_left, List.foldl_toArray', List.foldl_cons, List.foldl_nil, List.setIfInBounds_toArray, List.set_cons_succ, List.set_cons_zero]
    gi_wp2_with (rw [Oper.semAt_eq _ _ _ (fun c h => by cases h)]; go_simp; try go_bits)
    refine ⟨trivial, ?_⟩
    intro W4 kl zl
    have ZL := Lib.hid zl
    clear zl
    have hi2 := HI.out.kept (kl.mono fun b _ e h => by subst e; exact HL.out h)
    obtain ⟨o, ho, hrow, hoo, hU⟩ := hi2
    have hT4 : Tb W4 bt m iv E F := HX.out.1.kept kl (fun b hb e => by have := HT.out.lt b hb; have := HLD.out.2; omega)
    have hby := (hT4.en x HX.out.2).data
    have hxd : x.d < W.heap.size := HT.out.lt _ (.inr (.inr ⟨x, HX.out.2, .inr rfl⟩))
    have hfar : ∀ b, o.ownBlock = some b → b < W.heap.size → False := fun b e h => by have := HNEW.out b (hoo b e).1; omega
    have HOO := Lib.hid hfar
    obtain ⟨n0, hn0⟩ : ∃ n0, (snapB (kvs pre)).size = n0 := ⟨_, rfl⟩
    rw [hn0] at hrow hbig
    have hco := ho.cell
    have hfo := ho.frozen
    clear hT4
    gi_wp2_with (first
      | (gi_at_builtin; refine wpListW_append_str rfl _ _ byteE Tryz.underlying9 rfl rfl hrow x.key rfl (by unfold maxLen; omega) (by omega) ?_
         intro a1 c1 w5 h21 h31 h41
         have bo5 := ho.kept h31 (fun e => (hoo _ e).2 rfl)
         have hco5 := bo5.cell
         have hfo5 := bo5.frozen
         have hby5 := hby.kept h31 (fun b o e hb => by cases e; exact HOO.out x.d hb hxd)
         go_frame)
      | (gi_at_builtin; refine wpListW_append_mine rfl _ _ byteE rfl rfl h21 (some ⟨x.d, 0, none⟩) x.data.size x.c (byteVs x.data) rfl (by rw [byteVs_len, Nat.mul_one]) hby5.src (byteVs_one _) (by unfold maxLen; omega) (by omega) ?_
         intro a2 c2 w6 h22 h32 h42
         have k56 : Kept (fun b => o.ownBlock = some b) W4 w6 := h31.trans h32 (fun b hb e => by
           have e : (Value.slice a1 (n0 + x.key.size) c1).ownBlock = some b := e
           show o.ownBlock = some b
           rcases h41 with h | h
           · rw [h] at e; exact e
           · rw [h] at e; have e := Option.some.inj e; omega)
         have bo6 := ho.kept k56 (fun e => (hoo _ e).2 rfl)
         have hco6 := bo6.cell
         have hfo6 := bo6.frozen
         go_frame)
      | (rw [Oper.semAt_eq _ _ _ (fun c h => by cases h)]; go_simp; try go_bits))
    have hz5 := h31.size
    have k67 : Kept (fun b => b = sb ∨ o.ownBlock = some b) W4 (w6.setCell ⟨sb, 0, none⟩ (.slice a2 (n0 + x.key.size + x.data.size) c2)) := (k56.mono fun _ _ e => .inr e).setCell _ _ (fun _ => .inl rfl)
    have hob : (Value.slice a2 (n0 + x.key.size + x.data.size) c2).ownBlock = o.ownBlock ∨ ∃ nb, W4.heap.size ≤ nb ∧ (Value.slice a2 (n0 + x.key.size + x.data.size) c2).ownBlock = some nb := by
      have h42 : (Value.slice a2 (n0 + x.key.size + x.data.size) c2).ownBlock = (Value.slice a1 (n0 + x.key.size) c1).ownBlock ∨ (Value.slice a2 (n0 + x.key.size + x.data.size) c2).ownBlock = some w5.heap.size := h42
      have h41 : (Value.slice a1 (n0 + x.key.size) c1).ownBlock = o.ownBlock ∨ (Value.slice a1 (n0 + x.key.size) c1).ownBlock = some W4.heap.size := h41
      rcases h42 with h | h
      · rcases h41 with h' | h'
        · exact .inl (h.trans h')
        · exact .inr ⟨_, Nat.le_refl _, h.trans h'⟩
      · exact .inr ⟨_, hz5, h⟩
    obtain ⟨e1, e2, e3, e4⟩ := round_append (o := o) (o' := .slice a2 (n0 + x.key.size + x.data.size) c2) kl HL.out LT.out hlW hU (fun b e => (hoo b e).1) k67 hob (fun b e => by
      have := (h22.lt b e).2
      simpa [World.setCell] using this)
    have hne2 : ∀ b, (Value.slice a2 (n0 + x.key.size + x.data.size) c2).ownBlock = some b → b ≠ sb ∧ W.heap.size ≤ b := by
      intro b e
      have hs4 := kl.size
      have := LT.out sb hU
      rcases hob with h | ⟨nb, h1, h2⟩
      · rw [h] at e
        exact ⟨(hoo b e).2, HNEW.out b (hoo b e).1⟩
      · rw [h2] at e
        have e := Option.some.inj e
        have := HNEW.out sb hU
        exact ⟨by omega, by omega⟩
    refine ⟨e1, _, e2, e3, e4, ⟨_, bo6.set _, ?_, fun b e => ⟨.inr e, (hne2 b e).1⟩, .inl hU⟩, ?_⟩
    · have e6 : kvs (pre ++ [x]) = kvs pre ++ [(x.key, x.data)] := by unfold kvs; rw [List.map_append]; rfl
      rw [strCells_vs] at h22
      rw [e6, vs_snoc, snapB_snoc_size, hn0]
      exact ownsRow_kept h22 (Kept.one_set _ _ _) (fun b e h => (hne2 b e).1 h)
    · rintro b (h | h)
      · exact HNEW.out b h
      · exact (hne2 b h).2
  · intro items dk U3 W3 hfull hi hkw hRd' hdk hdkn hdkU hUU hUn hUlt
    obtain ⟨⟨o, ho, hrow, hoo, hU⟩, hnew⟩ := hi
    have hco := ho.cell
    rw [hfull] at hrow
    have H := Lib.hid (And.intro hkw (And.intro hdk (And.intro hdkU hUn)))
    have HO := Lib.hid (And.intro hoo (And.intro hrow hnew))
    have hdn : W2.heap.size ≤ dk := hdkn
    have HZ := Lib.hid (And.intro hz12 hsbw)
    clear hfull hrow hkw hdk hdkU hUn hoo hUU hUlt hRd' hdkn hRd hAD hnf ho hT2 k12 hbox hne hbxn hlen hsl hnew
    gi_wp2_with fail
    obtain ⟨hkw, hdk, hdkU, hUn⟩ := H.out
    obtain ⟨hoo, hrow, hnew⟩ := HO.out
    refine leaves_marks [dk] _ (by simp) (fun d hd => by rw [List.mem_singleton.1 hd]; exact hdk) (fun W' kd => ?_)
    have hs1 := HZ.out
    have hk12 := HT2.out.2.1
    refine ⟨_, results_tmp rfl _ _ _, o, rfl, ownsRow_kept hrow kd (fun b e hd => hdkU (by rw [← List.mem_singleton.1 hd]; exact (hoo b e).1)), fun b e => hnew b (hoo b e).1, ?_⟩
    refine Kept.none ((((hk12.mono (S' := fun b => W.heap.size ≤ b) (fun _ _ e => e.elim)).trans hkw (fun b _ e => ?_))).trans kd (fun b _ e => ?_))
    · rw [e]
      omega
    · rw [List.mem_singleton.1 e]
      omega
end Go.Proofs.YtdkcnigghcbnpaaGreat

/- slices.Chunk of bytes, ranged over: each part, in order. -/
namespace Go.Proofs.YtdkcnigghcbnpaaGreat
set_option linter.unusedVariables false
set_option linter.unusedSimpArgs false
open Go.RowKit Go.MapKept

/-- What the iterator of Chunk reads: its boxes. -/
structure ChRd (bx nb : Nat) (sv : Value) (sz : Nat) (W : World) : Prop where
  cs : W.cell? ⟨bx, 0, none⟩ = some sv
  lt1 : bx < W.heap.size
  cn : W.cell? ⟨nb, 0, none⟩ = some (.int .i64 (sz : Int))
  lt2 : nb < W.heap.size
theorem ChRd.kept {bx nb : Nat} {sv : Value} {sz : Nat} {W W' : World} {S : Nat → Prop} (h : ChRd bx nb sv sz W) (k : Kept S W W') (hS : ∀ b, (b = bx ∨ b = nb) → ¬ S b) : ChRd bx nb sv sz W' :=
  ⟨(k.cell (p := ⟨bx, 0, none⟩) h.lt1 (hS _ (.inl rfl))).trans h.cs, Nat.lt_of_lt_of_le h.lt1 k.size, (k.cell (p := ⟨nb, 0, none⟩) h.lt2 (hS _ (.inr rfl))).trans h.cn, Nat.lt_of_lt_of_le h.lt2 k.size⟩
theorem ChRd.dlt {bx nb : Nat} {sv : Value} {sz : Nat} {W : World} (h : ChRd bx nb sv sz W) : ∀ b, (b = bx ∨ b = nb) → b < W.heap.size := by
  rintro b (rfl | rfl)
  · exact h.lt1
  · exact h.lt2

theorem range_split {k n : Nat} (h : k < n) : List.range k ++ k :: (List.range n).drop (k + 1) = List.range n := by
  have h1 := List.take_append_drop k (List.range n)
  rw [List.drop_eq_getElem_cons (by simpa using h), List.getElem_range, List.take_range, Nat.min_eq_left (by omega)] at h1
  exact h1
set_option maxRecDepth 100000 in
set_option maxHeartbeats 2000000 in
theorem chunk1_any (bx nb : Nat) (a : Option Addr) (g o T c sz cnt : Nat) (ha : 0 < T → a = some ⟨g, o, none⟩) (hT : T = cnt * sz) (hsz : 1 ≤ sz) (hTc : T ≤ c) (hbig : T ≤ 1000000) :
    IterG Tryz.prog 79 #[.pointer (some ⟨bx, 0, none⟩), .pointer (some ⟨nb, 0, none⟩)] (fun k : Nat => #[.slice (some ⟨g, o + k * sz, none⟩) sz sz]) (fun l => l = List.range cnt) (fun b => b = bx ∨ b = nb) (ChRd bx nb (.slice a T c) sz) := by
  intro l J Jx U W hJ hJx hY h0 hD hlt hR
  have HY := Lib.hid (And.intro hJ (And.intro hY (And.intro h0 (And.intro hD (And.intro hlt hR)))))
  have HA := Lib.hid (And.intro ha hT)
  clear hY h0 hD hlt hR hJ ha hT
  refine callsIn_of_wp Tryz.func79 rfl trivial ?_ rfl
  simp only [Tryz.ntmps79, List.size_toArray, List.length_cons, List.length_nil, Nat.reduceAdd, Nat.reduceSub, Array.replicate_succ, Array.replicate_zero, List.push_toArray, List.append_toArray, List.nil_append, List.cons_append]
  gi_wp2_with fail
  gi_loopw [4] (fun i wr => ∃ (k : Nat) (U' : Nat → Prop), k ≤ cnt ∧ i = .int .i64 ((k * sz : Nat) : Int) ∧ J (List.range k) U' wr ∧ Grow U U' W wr ∧ ChRd bx nb (.slice a T c) sz wr ∧ (∀ b, U' b → ¬ (b = bx ∨ b = nb))) (fun i _ => T - (intOf i).toNat)
  case atStart =>
    obtain ⟨hJ, hY, h0, hD, hlt, hR⟩ := HY.out
    exact ⟨0, U, Nat.zero_le _, by simp, by simpa using h0, Grow.refl hlt, hR, hD⟩
  case round =>
    obtain ⟨k, U', hk, rfl, hj, gr, hR', hD'⟩ := hrel
    have hcs := hR'.cs
    have hcn := hR'.cn
    obtain ⟨p, hp⟩ : ∃ p, p = k * sz := ⟨_, rfl⟩
    by_cases hk2 : k < cnt
    · have hpt : p + sz ≤ T := by
        rw [HA.out.2, hp, ← Nat.succ_mul]
        exact Nat.mul_le_mul_right _ hk2
      have kd : Kept (fun _ => False) wr wr.drew := ⟨rfl, rfl, rfl, Nat.le_refl _, fun _ _ _ => rfl⟩
      have hjd := HY.out.1 _ _ _ _ hj (kd.mono fun _ _ e => e.elim)
      have grd : Grow U U' W wr.drew := gr.after kd (fun _ e _ => e.elim)
      have hRd := hR'.kept kd (fun _ _ e => e)
      obtain ⟨fn, tmps, assign, body, hy, hR2⟩ := HY.out.2.1 (List.range k) k ((List.range cnt).drop (k + 1)) U' wr.drew (range_split hk2) hjd grd hD' hRd
      rw [← hp] at hy ⊢
      have hao := HA.out.1 (by omega)
      have HR := Lib.hid (And.intro hjd (And.intro grd (And.intro hRd hD')))
      have HP := Lib.hid hp
      have HA2 := HA
      clear HA
      subst hao
      clear hj gr hR' hD' hp hjd grd hRd kd
      gi_wp2_with fail
      refine wpW_region_still (by kernel_rfl) (by kernel_rfl) ?_
      have hple : p ≤ T := by omega
      have hcne : ¬ (c = p) := by omega
      have hmin : min (sz : Int) ((T - p : Nat) : Int) = (sz : Int) := by omega
      iterate 7 (with_reducible refine wpStill_want (by kernel_rfl) (fun K hK => ?_); go_simp; with_reducible refine hK _ ?_; clear hK K)
      refine wpStill_nil ?_
      have hq : p + sz - p = sz := by omega
      gi_wp2_with fail
      refine hR2.mono ?_
      rintro e W3 ⟨U3, g3, (⟨rfl, hj3⟩ | ⟨rfl, hjx3⟩)⟩
      · have H3 := Lib.hid (And.intro g3 hj3)
        obtain ⟨hjd, grd, hRd, hD'⟩ := HR.out
        have hR3 := hRd.kept g3.kept (fun b hb hu => hD' b hu hb)
        have hcn3 := hR3.cn
        have HR3 := Lib.hid hR3
        clear hy hR2 g3 hj3 hcs hcn hjd grd hRd hD' hR3 hmin hq
        gi_wp2_with fail
        go_roundw
        case rel =>
          obtain ⟨hjd, grd, hRd, hD'⟩ := HR.out
          obtain ⟨g3, hj3⟩ := H3.out
          refine ⟨k + 1, U3, by omega, ?_, by rw [List.range_succ]; exact hj3, grd.trans g3, HR3.out, fun b hb hd => ?_⟩
          · have e : (k + 1) * sz = p + sz := by rw [HP.out, Nat.succ_mul]
            rw [e]
            go_num
          · rcases g3.new b hb with h | h
            · exact hD' b h hd
            · have := hRd.dlt b hd
              omega
        case measure => simp [intOf]; omega
      · have H3 := Lib.hid (And.intro g3 hjx3)
        clear hy hR2 g3 hjx3 hcs hcn
        gi_wp2_with fail
        exact bodyPost_ret (results_none rfl _ _ _) rfl ⟨_, U3, rfl, HR.out.2.1.trans H3.out.1, .inr H3.out.2⟩
    · have hkc : k = cnt := by omega
      subst hkc
      have hpT : p = T := by rw [hp, HA.out.2]
      rw [← hp, hpT]
      have HR := Lib.hid (And.intro hj gr)
      clear hj gr hR' hD' hp hpT
      gi_wp2_with fail
      go_end0
      first | exact ⟨_, U', rfl, HR.out.2, .inl ⟨_, rfl, HR.out.1⟩⟩ | exact ⟨⟨_, rfl⟩, U', HR.out.2, .inl ⟨_, rfl, HR.out.1⟩⟩

set_option maxRecDepth 100000 in
theorem chunk_any (a : Option Addr) (T c sz : Nat) (hsz : 1 ≤ sz) (hbig : sz ≤ 1000000) (W : World) :
    Calls Tryz.prog 47 #[.slice a T c, .int .i64 (sz : Int)] W fun e w' => ∃ bx nb, e = .returned (.func (.func 79) #[] #[.pointer (some ⟨bx, 0, none⟩), .pointer (some ⟨nb, 0, none⟩)]) ∧ ChRd bx nb (.slice a T c) sz w' ∧ Kept (fun _ => False) W w' ∧ W.heap.size ≤ bx ∧ W.heap.size ≤ nb := by
  refine Calls.mono (R := fun e w' => e = .returned (.func (.func 79) #[] #[.pointer (some ⟨W.heap.size, 0, none⟩), .pointer (some ⟨W.heap.size + 1, 0, none⟩)]) ∧ w' = (W.alloc (.cells #[.slice a T c] 28)).alloc (.cells #[.int .i64 (sz : Int)] 3)) ?_ ?_
  · go_enter Tryz.func47, Tryz.ntmps47
    go_wp2_with fail
    go_ret
    exact ⟨rfl, rfl⟩
  · rintro e w' ⟨rfl, rfl⟩
    have k1 := Kept.one_alloc W (.cells #[.slice a T c] 28)
    have k2 := Kept.one_alloc (W.alloc (.cells #[.slice a T c] 28)) (.cells #[.int .i64 (sz : Int)] 3)
    have b1 := (Box.new W (.slice a T c) 28).kept k2 (fun e => e)
    have b2 := Box.new (W.alloc (.cells #[.slice a T c] 28)) (.int .i64 (sz : Int)) 3
    simp only [World.size_alloc] at b2
    exact ⟨W.heap.size, W.heap.size + 1, rfl, ⟨b1.cell, b1.lt, b2.cell, b2.lt⟩, k1.trans k2 (fun _ _ e => e), Nat.le_refl _, by omega⟩
theorem chunk_enters (args : Array Value) (w : World) : (callFunc 79 args).run Tryz.prog w = .ok (.enter 79 args) w := by
  exact enters_body Tryz.func79 (by kernel_rfl) rfl args w
/-- bytes.Equal. -/
theorem equal_any {W : World} {a b : Option Addr} {n c m d : Nat} {k l : ByteArray} (ha : BytesAt W a n k) (hb : BytesAt W b m l) :
    Calls Tryz.prog 48 #[.slice a n c, .slice b m d] W fun e w' => e = .returned (.bool (k.toList == l.toList)) ∧ w' = W := by
  have h1 := ha.conv (c := c)
  have h2 := hb.conv (c := d)
  clear ha hb
  go_enter Tryz.func48, Tryz.ntmps48
  go_wp2_with fail
  go_ret
  exact ⟨rfl, rfl⟩
end Go.Proofs.YtdkcnigghcbnpaaGreat
