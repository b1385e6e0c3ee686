/- What stands under the walks, part A. -/
import Derived.Test.YtdkcnigghcbnpaaGreatThing
import Derived.Test.YtdkcnigghcbnpaaGreatRestore
/- Which images are right, their bytes, and which bytes are an image: plain. No function is named here. -/
namespace Go.Proofs.YtdkcnigghcbnpaaGreat
set_option linter.unusedVariables false
set_option linter.unusedSimpArgs false
open Go.RowKit Go.MapKept

def inB (n most : Int) : Bool := decide (0 ≤ n) && decide (n ≤ most)
def rightGP (x : GP) : Bool := nameB x.nm && (decide (x.code.size ≤ 4096) && ((decide (x.maps.length ≤ 16) && x.maps.all nameB) && (inB x.ctx 256 && inB x.emit 256)))
def rightGD (x : GD) : Bool := (resP x.m x.data).isSome
def rightGL (x : GL) : Bool := nameB x.nm && (nameB x.pg && inB x.ver 1073741824)
def rightGI (x : GI) : Bool := (decide (x.P.length ≤ 64) && x.P.all rightGP) && ((decide (x.D.length ≤ 64) && x.D.all rightGD) && (decide (x.L.length ≤ 64) && x.L.all rightGL))
def natP (x : GP) : IP := (x.nm, x.code, x.maps, x.ctx.toNat, x.emit.toNat)
def natD (x : GD) : IDm := (x.m.nm, x.m.kd.toNat, x.m.ks.toNat, x.m.vs.toNat, x.m.mx.toNat, x.data)
def natL (x : GL) : IL := (x.nm, x.pg, x.ver.toNat)
def natI (x : GI) : Img := (x.P.map natP, x.D.map natD, x.L.map natL)
theorem inB_iff {n m : Int} : inB n m = true ↔ 0 ≤ n ∧ n ≤ m := by simp [inB]
theorem nameB_size {s : ByteArray} (h : nameB s = true) : s.size ≤ 16 := by
  unfold nameB at h
  simp only [Bool.and_eq_true, decide_eq_true_eq] at h
  exact h.1.2
theorem natP_ok {x : GP} (h : rightGP x = true) : cP.ok (natP x) ∧ intP (natP x) = x := by
  unfold rightGP at h
  simp only [Bool.and_eq_true, decide_eq_true_eq, inB_iff, List.all_eq_true] at h
  obtain ⟨h1, h2, ⟨h3, h4⟩, ⟨h5, h6⟩, h7, h8⟩ := h
  refine ⟨⟨?_, ?_, ⟨?_, fun s hs => ?_⟩, ?_, ?_⟩, ?_⟩
  · exact Nat.lt_of_le_of_lt (nameB_size h1) (by decide)
  · exact Nat.lt_of_le_of_lt h2 (by decide)
  · exact Nat.le_trans h3 (by decide)
  · exact Nat.lt_of_le_of_lt (nameB_size (h4 s hs)) (by decide)
  · show x.ctx.toNat < 4294967296
    omega
  · show x.emit.toNat < 4294967296
    omega
  · cases x
    simp only [intP, natP, GP.mk.injEq, true_and] at *
    omega
theorem rightGD_map {x : GD} (h : rightGD x = true) : x.m.right = true ∧ x.data.size ≤ 327680 := by
  unfold rightGD resP at h
  split at h
  · rename_i hc
    have h3 := (rightB_iff _ _ _ _ _).1 hc.1
    refine ⟨hc.1, ?_⟩
    have h4 : (x.m.ks.toNat + x.m.vs.toNat) * x.m.mx.toNat ≤ 320 * 1024 := Nat.mul_le_mul (by omega) (by omega)
    have := hc.2.2
    omega
  · cases h
theorem natD_ok {x : GD} (h : rightGD x = true) : cD.ok (natD x) ∧ intD (natD x) = x := by
  obtain ⟨h1, h2⟩ := rightGD_map h
  have h3 := (rightB_iff _ _ _ _ _).1 h1
  obtain ⟨⟨nm, kd, ks, vs, mx⟩, data⟩ := x
  simp only at h2 h3
  refine ⟨⟨Nat.lt_of_le_of_lt (nameB_size h3.1) (by decide), ?_, ?_, ?_, ?_, Nat.lt_of_le_of_lt h2 (by decide)⟩, ?_⟩
  · show kd.toNat < 4294967296
    omega
  · show ks.toNat < 4294967296
    omega
  · show vs.toNat < 4294967296
    omega
  · show mx.toNat < 4294967296
    omega
  · simp only [intD, natD, GD.mk.injEq, TM.mk.injEq, true_and, and_true]
    omega
theorem natL_ok {x : GL} (h : rightGL x = true) : cL.ok (natL x) ∧ intL (natL x) = x := by
  unfold rightGL at h
  simp only [Bool.and_eq_true, inB_iff] at h
  obtain ⟨h1, h2, h3, h4⟩ := h
  refine ⟨⟨Nat.lt_of_le_of_lt (nameB_size h1) (by decide), Nat.lt_of_le_of_lt (nameB_size h2) (by decide), ?_⟩, ?_⟩
  · show x.ver.toNat < 4294967296
    omega
  · cases x
    simp only [intL, natL, GL.mk.injEq, true_and] at *
    omega
theorem rows_ok {α β : Type} {A : Codec β} {f : α → β} {g : β → α} {r : α → Bool} (h : ∀ x, r x = true → A.ok (f x) ∧ g (f x) = x) {l : List α} {M : Nat} {hM : M < 4294967296} (hl : (decide (l.length ≤ M) && l.all r) = true) : (cRows A M hM).ok (l.map f) ∧ (l.map f).map g = l := by
  simp only [Bool.and_eq_true, decide_eq_true_eq, List.all_eq_true] at hl
  refine ⟨⟨by rw [List.length_map]; exact hl.1, fun y hy => ?_⟩, ?_⟩
  · obtain ⟨x, hx, rfl⟩ := List.mem_map.1 hy
    exact (h x (hl.2 x hx)).1
  · rw [List.map_map]
    conv => rhs; rw [← List.map_id l]
    exact List.map_congr_left fun x hx => (h x (hl.2 x hx)).2
theorem natI_ok {x : GI} (h : rightGI x = true) : cI.ok (natI x) ∧ intI (natI x) = x := by
  unfold rightGI at h
  have h0 := Bool.and_eq_true_iff.1 h
  have h00 := Bool.and_eq_true_iff.1 h0.2
  obtain ⟨h1, h2⟩ := rows_ok (M := 64) (hM := by decide) (fun x hx => natP_ok hx) h0.1
  obtain ⟨h3, h4⟩ := rows_ok (M := 64) (hM := by decide) (fun x hx => natD_ok hx) h00.1
  obtain ⟨h5, h6⟩ := rows_ok (M := 64) (hM := by decide) (fun x hx => natL_ok hx) h00.2
  refine ⟨⟨h1, h3, h5⟩, ?_⟩
  show (⟨_, _, _⟩ : GI) = x
  rw [show (natI x).1.map intP = x.P from h2, show (natI x).2.1.map intD = x.D from h4, show (natI x).2.2.map intL = x.L from h6]
theorem natP_int (x : IP) : natP (intP x) = x := rfl
theorem natD_int (x : IDm) : natD (intD x) = x := rfl
theorem natL_int (x : IL) : natL (intL x) = x := rfl
theorem natI_int (x : Img) : natI (intI x) = x := by
  obtain ⟨P, D, L⟩ := x
  have e : ∀ {α β : Type} (f : α → β) (g : β → α) (l : List β), (∀ y, f (g y) = y) → (l.map g).map f = l := fun f g l h => by
    rw [List.map_map]
    conv => rhs; rw [← List.map_id l]
    exact List.map_congr_left fun x _ => h x
  show ((P.map intP).map natP, (D.map intD).map natD, (L.map intL).map natL) = (P, D, L)
  rw [e natP intP P natP_int, e natD intD D natD_int, e natL intL L natL_int]
/-- An image's bytes; the image of bytes. -/
def encI (x : GI) : List UInt8 := imgL (natI x)
def decI (b : List UInt8) : Option GI := match dImg b with
  | some y => if rightGI (intI y) = true then some (intI y) else none
  | none => none
theorem dec_enc {x : GI} (h : rightGI x = true) : decI (encI x) = some x := by
  obtain ⟨h1, h2⟩ := natI_ok h
  unfold decI encI
  rw [dImg_img h1]
  simp only
  rw [h2, if_pos h]
theorem enc_dec {b : List UInt8} {x : GI} (h : decI b = some x) : rightGI x = true ∧ b = encI x := by
  unfold decI at h
  cases hd : dImg b with
  | none => rw [hd] at h; cases h
  | some y =>
    rw [hd] at h
    simp only at h
    split at h
    · rename_i hr
      injection h with h
      subst h
      refine ⟨hr, ?_⟩
      unfold encI
      rw [natI_int]
      exact (img_dImg hd).2
    · cases h
theorem dec_more {x : GI} (h : rightGI x = true) {r : List UInt8} (hr : r ≠ []) : decI (encI x ++ r) = none := by
  unfold decI encI
  rw [dImg_more (natI_ok h).1 hr]
theorem dec_cut {x : GI} (h : rightGI x = true) {k : Nat} (hk : k < (encI x).length) : decI ((encI x).take k) = none := by
  unfold decI encI
  rw [dImg_cut (natI_ok h).1 hk]
theorem enc_inj {x y : GI} (hx : rightGI x = true) (hy : rightGI y = true) (h : encI x = encI y) : x = y := by
  have h1 := dec_enc hx
  rw [h, dec_enc hy] at h1
  injection h1 with h1
  exact h1.symm
end Go.Proofs.YtdkcnigghcbnpaaGreat

/- image: are all names right? -/
namespace Go.Proofs.YtdkcnigghcbnpaaGreat
set_option linter.unusedVariables false
set_option linter.unusedSimpArgs false
open Go.RowKit Go.MapKept

set_option maxRecDepth 100000 in
theorem imgname_any (s : ByteArray) (w : World) : Calls Tryz.prog 86 #[.string s] w fun e w' => e = .returned (.bool (nameB s)) ∧ Kept (fun _ => False) w w' := by
  go_enter Tryz.func86, Tryz.ntmps86
  go_wp2_with fail
  refine (right_any s 2 1 1 1 _).mono ?_
  rintro e w1 ⟨rfl, k1⟩
  have K1 := Lib.hid k1
  clear k1
  go_wp2_with fail
  go_ret
  refine ⟨?_, K1.out⟩
  congr 2
  simp [rightB, withinB]
theorem imgwithin_any (n m : Int) (w : World) : Calls Tryz.prog 88 #[.int .i64 n, .int .i64 m] w fun e w' => e = .returned (.bool (inB n m)) ∧ w = w' := by
  go_enter Tryz.func88, Tryz.ntmps88
  go_wp2
  all_goals
    go_ret
    refine ⟨congrArg (fun b => Ending.returned (Value.bool b)) ?_, rfl⟩
    rw [Bool.eq_iff_iff]
    simp [inB]
    try omega

set_option maxRecDepth 100000 in
set_option maxHeartbeats 4000000 in
theorem negS_any {w : World} {Z : Nat → Prop} {bx : Nat} {x : ByteArray}  (hx : Box w bx (.func (.func 86) #[] #[]))  :
    Calls Tryz.prog 109 #[.string x, .pointer (some ⟨bx, 0, none⟩)] w fun e w' => e = .returned (.bool (!nameB x)) ∧ Kept (fun _ => False) w w' := by
  have RT := Lib.hid (fun (w1 : World) (k : Kept (fun _ => False) w w1) => imgname_any x w1)
  have hb := hx.cell
  have hbl := hx.lt
  have HK := Lib.hid (Kept.refl (fun _ => False) w)
  clear  hx
  go_enter Tryz.func109, Tryz.ntmps109
  go_wp2_with fail
  refine (RT.out _ (Kept.refl _ _)).mono ?_
  rintro e w1 ⟨rfl, k1⟩
  have K1 := Lib.hid k1
  clear k1 RT
  go_wp2_with fail
  go_ret
  exact ⟨rfl, K1.out⟩
set_option maxRecDepth 100000 in
set_option maxHeartbeats 4000000 in
theorem idxS_any {w : World} {Z : Nat → Prop} {bx : Nat} {a : Option Addr} {n c : Nat} {l : List ByteArray} (hx : Box w bx (.func (.func 86) #[] #[])) (hr : RowZ tStr w Z a l) (hl : l.length = n) (hn : n ≤ 9223372036854775807) :
    Calls Tryz.prog 117 #[.slice a n c, .func (.func 109) #[] #[.pointer (some ⟨bx, 0, none⟩)]] w fun e w' => ∃ z : Int, e = .returned (.int .i64 z) ∧ (0 ≤ z ↔ ¬ l.all nameB = true) ∧ Kept (fun _ => False) w w' := by
  have H := Lib.hid (And.intro hx (And.intro hr hl))
  clear hx hr hl
  go_enter Tryz.func117, Tryz.ntmps117
  go_wp2_with fail
  go_loopw [5, 8] (fun _ s8 wr => ∃ i : Nat, i ≤ n ∧ s8 = .int .i64 (i : Int) ∧ (∀ j x, j < i → l[j]? = some x → nameB x = true) ∧ Kept (fun _ => False) w wr) (fun _ s8 _ => n - (intOf s8).toNat)
  case atStart => exact ⟨0, Nat.zero_le _, rfl, fun j x hj => absurd hj (Nat.not_lt_zero _), Kept.refl _ _⟩
  case round =>
    obtain ⟨i, hi, rfl, hall, hk⟩ := hrel
    by_cases hlt : i < n
    · have hin : (i : Int) < (n : Int) := by omega
      obtain ⟨x, hxi⟩ : ∃ x, l[i]? = some x := ⟨_, List.getElem?_eq_getElem (by rw [H.out.2.2]; exact hlt)⟩
      obtain ⟨b, o, rfl, hb, -, c0⟩ := (H.out.2.1.keep hk).str hxi
      have R := Lib.hid (And.intro hall (And.intro hk hxi))
      have NG := Lib.hid (negS_any (w := wr) (x := x) (H.out.1.kept hk (fun e => e)) (Z := Z))
      clear hall hk hxi 
      go_wp2_with fail
      refine NG.out.mono ?_
      rintro e w1 ⟨rfl, k1⟩
      have K1 := Lib.hid k1
      clear k1 NG
      obtain ⟨p, hp⟩ : ∃ p, nameB x = p := ⟨_, rfl⟩
      rw [hp]
      have HP := Lib.hid hp
      clear hp
      cases p
      · go_wp2_with fail
        go_ret
        refine ⟨_, rfl, ⟨fun _ hc => ?_, fun _ => by omega⟩, R.out.2.1.trans K1.out (fun _ _ e => e)⟩
        have := List.all_eq_true.1 hc x (List.mem_of_getElem? R.out.2.2)
        rw [HP.out] at this
        cases this
      · go_wp2_with fail
        refine ⟨⟨i + 1, hlt, rfl, fun j y hj hy => ?_, R.out.2.1.trans K1.out (fun _ _ e => e)⟩, by simp only [intOf]; omega⟩
        by_cases e : j = i
        · subst e
          rw [R.out.2.2] at hy
          cases hy
          exact HP.out
        · exact R.out.1 j y (by omega) hy
    · obtain rfl : i = n := by omega
      have R := Lib.hid (And.intro hall hk)
      clear hall hk
      go_wp2_with fail
      go_ret
      refine ⟨_, rfl, ⟨fun h => by omega, fun h => absurd (List.all_eq_true.2 fun x hx => ?_) h⟩, R.out.2⟩
      obtain ⟨j, hj, e⟩ := List.getElem_of_mem hx
      exact R.out.1 j x (by rw [← H.out.2.2]; exact hj) (by rw [← e]; exact List.getElem?_eq_getElem hj)
set_option maxRecDepth 100000 in
set_option maxHeartbeats 4000000 in
theorem conS_any {w : World} {Z : Nat → Prop} {bx : Nat} {a : Option Addr} {n c : Nat} {l : List ByteArray} (hx : Box w bx (.func (.func 86) #[] #[])) (hr : RowZ tStr w Z a l) (hl : l.length = n) (hn : n ≤ 9223372036854775807) :
    Calls Tryz.prog 108 #[.slice a n c, .func (.func 109) #[] #[.pointer (some ⟨bx, 0, none⟩)]] w fun e w' => e = .returned (.bool (!l.all nameB)) ∧ Kept (fun _ => False) w w' := by
  have IX := Lib.hid (idxS_any (c := c) hx hr hl hn)
  clear hx hr hl
  go_enter Tryz.func108, Tryz.ntmps108
  go_wp2_with fail
  refine IX.out.mono ?_
  rintro e w1 ⟨z, rfl, hz, k1⟩
  have K1 := Lib.hid (And.intro k1 hz)
  clear k1 hz IX
  by_cases h0 : 0 ≤ z
  · go_wp2_with fail
    go_ret
    refine ⟨?_, K1.out.1⟩
    have := K1.out.2.1 h0
    simp only [Bool.not_eq_true] at this
    rw [this]
    rfl
  · have h1 : z < 0 := by omega
    go_wp2_with fail
    go_ret
    refine ⟨?_, K1.out.1⟩
    have : l.all nameB = true := Classical.byContradiction fun e => by have := K1.out.2.2 e; omega
    rw [this]
    show Ending.returned (Value.bool (decide (0 ≤ z))) = _
    rw [decide_eq_false (by omega)]
    rfl
set_option maxRecDepth 100000 in
set_option maxHeartbeats 4000000 in
theorem allS_any {w : World} {Z : Nat → Prop} {a : Option Addr} {n c most : Nat} {l : List ByteArray} (hr : RowZ tStr w Z a l) (hl : l.length = n) (hn : n ≤ 9223372036854775807) :
    Calls Tryz.prog 87 #[.slice a n c, .int .i64 (most : Int), .func (.func 86) #[] #[]] w fun e w' => e = .returned (.bool (decide (l.length ≤ most) && l.all nameB)) ∧ Kept (fun _ => False) w w' := by
  have HL := Lib.hid hl
  obtain ⟨q, hq⟩ : ∃ q, w.heap.size = q := ⟨_, rfl⟩
  have kq := Kept.one_alloc w (.cells #[.func (.func 86) #[] #[]] 104)
  have CN := Lib.hid (conS_any (c := c) (w := w.alloc (.cells #[.func (.func 86) #[] #[]] 104)) (Box.new w _ _) (hr.keep kq) hl hn)
  have KQ := Lib.hid kq
  clear hr hl kq hq q
  go_enter Tryz.func87, Tryz.ntmps87
  by_cases hm : n ≤ most
  · have hm1 : (n : Int) ≤ (most : Int) := by omega
    have HM := Lib.hid hm
    clear hm
    go_wp2_with fail
    refine CN.out.mono ?_
    rintro e w1 ⟨rfl, k1⟩
    have K1 := Lib.hid k1
    clear k1 CN
    go_wp2_with fail
    go_ret
    refine ⟨?_, KQ.out.trans K1.out (fun _ _ e => e)⟩
    rw [HL.out, decide_eq_true HM.out, Bool.true_and]
    rfl
  · have hm1 : ¬ (n : Int) ≤ (most : Int) := by omega
    have HM := Lib.hid hm
    clear hm
    go_wp2_with fail
    go_ret
    refine ⟨?_, KQ.out⟩
    rw [HL.out, decide_eq_false HM.out, Bool.false_and]
    rfl
end Go.Proofs.YtdkcnigghcbnpaaGreat

/- image: are all links right? -/
namespace Go.Proofs.YtdkcnigghcbnpaaGreat
set_option linter.unusedVariables false
set_option linter.unusedSimpArgs false
open Go.RowKit Go.MapKept

set_option maxRecDepth 100000 in
set_option maxHeartbeats 4000000 in
theorem link_right (x : GL) (w : World) : Calls Tryz.prog 62 #[.agg #[.string x.nm, .string x.pg, .int .i64 x.ver]] w fun e w' => e = .returned (.bool (rightGL x)) ∧ Kept (fun _ => False) w w' := by
  obtain ⟨nm, pg, ver⟩ := x
  obtain ⟨R, hR⟩ : ∃ R, rightGL ⟨nm, pg, ver⟩ = R := ⟨_, rfl⟩
  rw [hR]
  unfold rightGL at hR
  simp only at hR
  have HR := Lib.hid hR
  clear hR
  simp only
  go_enter Tryz.func62, Tryz.ntmps62
  go_wp2_with fail
  refine (imgname_any nm _).mono ?_
  rintro e w1 ⟨rfl, k1⟩
  have kq := Kept.one_alloc w (.cells #[.string nm, .string pg, .int .i64 ver] 103)
  have hrow := RowAt.new w #[.string nm, .string pg, .int .i64 ver] 103
  have c1 : w1.cell? ⟨w.heap.size, 1, none⟩ = some (.string pg) := (k1.cell (p := ⟨w.heap.size, 1, none⟩) (by simp) (fun e => e)).trans (by simp)
  have c2 : w1.cell? ⟨w.heap.size, 2, none⟩ = some (.int .i64 ver) := (k1.cell (p := ⟨w.heap.size, 2, none⟩) (by simp) (fun e => e)).trans (by simp)
  have hz1 : w.heap.size < w1.heap.size := Nat.lt_of_lt_of_le (by simp) k1.size
  have K1 := Lib.hid (kq.trans k1 (fun _ _ e => e))
  clear k1 kq hrow
  generalize w.heap.size = b at *
  generalize nameB nm = nb at HR ⊢
  cases nb
  · go_wp2_with fail
    go_ret
    exact ⟨by rw [← HR.out]; rfl, K1.out⟩
  · go_wp2_with fail
    refine (imgname_any pg _).mono ?_
    rintro e w2 ⟨rfl, k2⟩
    have c3 := (k2.cell (p := ⟨b, 2, none⟩) hz1 (fun e => e)).trans c2
    have K2 := Lib.hid (K1.out.trans k2 (fun _ _ e => e))
    clear k2 c2 c1 hz1
    generalize nameB pg = pb at HR ⊢
    cases pb
    · go_wp2_with fail
      go_ret
      exact ⟨by rw [← HR.out]; rfl, K2.out⟩
    · go_wp2_with fail
      refine (imgwithin_any ver 1073741824 _).mono ?_
      rintro e w3 ⟨rfl, rfl⟩
      generalize inB ver 1073741824 = vb at HR ⊢
      cases vb <;>
      · go_wp2_with fail
        go_ret
        exact ⟨by rw [← HR.out]; rfl, K2.out⟩

set_option maxRecDepth 100000 in
set_option maxHeartbeats 4000000 in
theorem negL_any {w : World} {Z : Nat → Prop} {bx : Nat} {x : GL}  (hx : Box w bx (.func (.func 62) #[] #[]))  :
    Calls Tryz.prog 92 #[.agg #[.string x.nm, .string x.pg, .int .i64 x.ver], .pointer (some ⟨bx, 0, none⟩)] w fun e w' => e = .returned (.bool (!rightGL x)) ∧ Kept (fun _ => False) w w' := by
  have RT := Lib.hid (fun (w1 : World) (k : Kept (fun _ => False) w w1) => link_right x w1)
  have hb := hx.cell
  have hbl := hx.lt
  have HK := Lib.hid (Kept.refl (fun _ => False) w)
  clear  hx
  go_enter Tryz.func92, Tryz.ntmps92
  go_wp2_with fail
  refine (RT.out _ (Kept.one_alloc w _)).mono ?_
  rintro e w1 ⟨rfl, k1⟩
  have K1 := Lib.hid k1
  clear k1 RT
  go_wp2_with fail
  go_ret
  exact ⟨rfl, Kept.trans (Kept.one_alloc w _) K1.out (fun _ _ e => e)⟩
set_option maxRecDepth 100000 in
set_option maxHeartbeats 4000000 in
theorem idxL_any {w : World} {Z : Nat → Prop} {bx : Nat} {a : Option Addr} {n c : Nat} {l : List GL} (hx : Box w bx (.func (.func 62) #[] #[])) (hr : RowZ tLink w Z a l) (hl : l.length = n) (hn : n ≤ 9223372036854775807) :
    Calls Tryz.prog 111 #[.slice a n c, .func (.func 92) #[] #[.pointer (some ⟨bx, 0, none⟩)]] w fun e w' => ∃ z : Int, e = .returned (.int .i64 z) ∧ (0 ≤ z ↔ ¬ l.all rightGL = true) ∧ Kept (fun _ => False) w w' := by
  have H := Lib.hid (And.intro hx (And.intro hr hl))
  clear hx hr hl
  go_enter Tryz.func111, Tryz.ntmps111
  go_wp2_with fail
  go_loopw [5, 8] (fun _ s8 wr => ∃ i : Nat, i ≤ n ∧ s8 = .int .i64 (i : Int) ∧ (∀ j x, j < i → l[j]? = some x → rightGL x = true) ∧ Kept (fun _ => False) w wr) (fun _ s8 _ => n - (intOf s8).toNat)
  case atStart => exact ⟨0, Nat.zero_le _, rfl, fun j x hj => absurd hj (Nat.not_lt_zero _), Kept.refl _ _⟩
  case round =>
    obtain ⟨i, hi, rfl, hall, hk⟩ := hrel
    by_cases hlt : i < n
    · have hin : (i : Int) < (n : Int) := by omega
      obtain ⟨x, hxi⟩ : ∃ x, l[i]? = some x := ⟨_, List.getElem?_eq_getElem (by rw [H.out.2.2]; exact hlt)⟩
      obtain ⟨b, o, rfl, hb, -, c0, c1, c2⟩ := (H.out.2.1.keep hk).link hxi
      have R := Lib.hid (And.intro hall (And.intro hk hxi))
      have NG := Lib.hid (negL_any (w := wr) (x := x) (H.out.1.kept hk (fun e => e)) (Z := Z))
      clear hall hk hxi 
      go_wp2_with fail
      refine NG.out.mono ?_
      rintro e w1 ⟨rfl, k1⟩
      have K1 := Lib.hid k1
      clear k1 NG
      obtain ⟨p, hp⟩ : ∃ p, rightGL x = p := ⟨_, rfl⟩
      rw [hp]
      have HP := Lib.hid hp
      clear hp
      cases p
      · go_wp2_with fail
        go_ret
        refine ⟨_, rfl, ⟨fun _ hc => ?_, fun _ => by omega⟩, R.out.2.1.trans K1.out (fun _ _ e => e)⟩
        have := List.all_eq_true.1 hc x (List.mem_of_getElem? R.out.2.2)
        rw [HP.out] at this
        cases this
      · go_wp2_with fail
        refine ⟨⟨i + 1, hlt, rfl, fun j y hj hy => ?_, R.out.2.1.trans K1.out (fun _ _ e => e)⟩, by simp only [intOf]; omega⟩
        by_cases e : j = i
        · subst e
          rw [R.out.2.2] at hy
          cases hy
          exact HP.out
        · exact R.out.1 j y (by omega) hy
    · obtain rfl : i = n := by omega
      have R := Lib.hid (And.intro hall hk)
      clear hall hk
      go_wp2_with fail
      go_ret
      refine ⟨_, rfl, ⟨fun h => by omega, fun h => absurd (List.all_eq_true.2 fun x hx => ?_) h⟩, R.out.2⟩
      obtain ⟨j, hj, e⟩ := List.getElem_of_mem hx
      exact R.out.1 j x (by rw [← H.out.2.2]; exact hj) (by rw [← e]; exact List.getElem?_eq_getElem hj)
set_option maxRecDepth 100000 in
set_option maxHeartbeats 4000000 in
theorem conL_any {w : World} {Z : Nat → Prop} {bx : Nat} {a : Option Addr} {n c : Nat} {l : List GL} (hx : Box w bx (.func (.func 62) #[] #[])) (hr : RowZ tLink w Z a l) (hl : l.length = n) (hn : n ≤ 9223372036854775807) :
    Calls Tryz.prog 91 #[.slice a n c, .func (.func 92) #[] #[.pointer (some ⟨bx, 0, none⟩)]] w fun e w' => e = .returned (.bool (!l.all rightGL)) ∧ Kept (fun _ => False) w w' := by
  have IX := Lib.hid (idxL_any (c := c) hx hr hl hn)
  clear hx hr hl
  go_enter Tryz.func91, Tryz.ntmps91
  go_wp2_with fail
  refine IX.out.mono ?_
  rintro e w1 ⟨z, rfl, hz, k1⟩
  have K1 := Lib.hid (And.intro k1 hz)
  clear k1 hz IX
  by_cases h0 : 0 ≤ z
  · go_wp2_with fail
    go_ret
    refine ⟨?_, K1.out.1⟩
    have := K1.out.2.1 h0
    simp only [Bool.not_eq_true] at this
    rw [this]
    rfl
  · have h1 : z < 0 := by omega
    go_wp2_with fail
    go_ret
    refine ⟨?_, K1.out.1⟩
    have : l.all rightGL = true := Classical.byContradiction fun e => by have := K1.out.2.2 e; omega
    rw [this]
    show Ending.returned (Value.bool (decide (0 ≤ z))) = _
    rw [decide_eq_false (by omega)]
    rfl
set_option maxRecDepth 100000 in
set_option maxHeartbeats 4000000 in
theorem allL_any {w : World} {Z : Nat → Prop} {a : Option Addr} {n c most : Nat} {l : List GL} (hr : RowZ tLink w Z a l) (hl : l.length = n) (hn : n ≤ 9223372036854775807) :
    Calls Tryz.prog 61 #[.slice a n c, .int .i64 (most : Int), .func (.func 62) #[] #[]] w fun e w' => e = .returned (.bool (decide (l.length ≤ most) && l.all rightGL)) ∧ Kept (fun _ => False) w w' := by
  have HL := Lib.hid hl
  obtain ⟨q, hq⟩ : ∃ q, w.heap.size = q := ⟨_, rfl⟩
  have kq := Kept.one_alloc w (.cells #[.func (.func 62) #[] #[]] 147)
  have CN := Lib.hid (conL_any (c := c) (w := w.alloc (.cells #[.func (.func 62) #[] #[]] 147)) (Box.new w _ _) (hr.keep kq) hl hn)
  have KQ := Lib.hid kq
  clear hr hl kq hq q
  go_enter Tryz.func61, Tryz.ntmps61
  by_cases hm : n ≤ most
  · have hm1 : (n : Int) ≤ (most : Int) := by omega
    have HM := Lib.hid hm
    clear hm
    go_wp2_with fail
    refine CN.out.mono ?_
    rintro e w1 ⟨rfl, k1⟩
    have K1 := Lib.hid k1
    clear k1 CN
    go_wp2_with fail
    go_ret
    refine ⟨?_, KQ.out.trans K1.out (fun _ _ e => e)⟩
    rw [HL.out, decide_eq_true HM.out, Bool.true_and]
    rfl
  · have hm1 : ¬ (n : Int) ≤ (most : Int) := by omega
    have HM := Lib.hid hm
    clear hm
    go_wp2_with fail
    go_ret
    refine ⟨?_, KQ.out⟩
    rw [HL.out, decide_eq_false HM.out, Bool.false_and]
    rfl
end Go.Proofs.YtdkcnigghcbnpaaGreat

/- image: are all maps and their entries right? -/
namespace Go.Proofs.YtdkcnigghcbnpaaGreat
set_option linter.unusedVariables false
set_option linter.unusedSimpArgs false
open Go.RowKit Go.MapKept

set_option maxRecDepth 100000 in
set_option maxHeartbeats 4000000 in
theorem dump_right {w : World} {Z : Nat → Prop} {x : GD} {da : Option Addr} {dc : Nat} (hd : BytZ w Z da x.data) (hdc : x.data.size ≤ dc) (hbig : x.data.size ≤ 1000000) : Calls Tryz.prog 60 #[.agg #[.string x.m.nm, .int .i64 x.m.kd, .int .i64 x.m.ks, .int .i64 x.m.vs, .int .i64 x.m.mx, .slice da x.data.size dc]] w fun e w' => e = .returned (.bool (rightGD x)) ∧ Kept (fun _ => False) w w' := by
  obtain ⟨⟨nm, kd, ks, vs, mx⟩, data⟩ := x
  simp only at hd hdc hbig ⊢
  have RS := Lib.hid (fun (w1 : World) (k : Kept (fun _ => False) w w1) => restore_any ⟨nm, kd, ks, vs, mx⟩ (hd.1.kept k (fun _ _ _ e => e)) hdc hbig)
  have HR := Lib.hid (show rightGD ⟨⟨nm, kd, ks, vs, mx⟩, data⟩ = (resP ⟨nm, kd, ks, vs, mx⟩ data).isSome from rfl)
  unfold TM.v at RS
  clear hd
  obtain ⟨N, hN⟩ : ∃ N, data.size = N := ⟨_, rfl⟩
  rw [hN] at RS hdc hbig ⊢
  clear hN
  go_enter Tryz.func60, Tryz.ntmps60
  go_wp2_with fail
  have kq := Kept.one_alloc w (.cells #[.string nm, .int .i64 kd, .int .i64 ks, .int .i64 vs, .int .i64 mx, .slice da N dc] 101)
  refine (RS.out _ kq).mono ?_
  rintro e w1 ⟨k1, hp⟩
  have K1 := Lib.hid (kq.trans k1 (fun _ _ e => e))
  clear k1 RS kq
  cases hrp : resP ⟨nm, kd, ks, vs, mx⟩ data with
  | none =>
    rw [hrp] at hp HR
    simp only at hp
    subst hp
    by_cases hm : TM.right ⟨nm, kd, ks, vs, mx⟩ = true
    · rw [if_pos hm]
      clear hm hrp
      go_wp2_with fail
      go_ret
      exact ⟨by rw [HR.out]; rfl, K1.out⟩
    · rw [if_neg hm]
      clear hm hrp
      go_wp2_with fail
      go_ret
      exact ⟨by rw [HR.out]; rfl, K1.out⟩
  | some P =>
    rw [hrp] at hp HR
    simp only at hp
    obtain ⟨bt, rfl, -⟩ := hp
    clear hrp
    go_wp2_with fail
    go_ret
    exact ⟨by rw [HR.out]; rfl, K1.out⟩

set_option maxRecDepth 100000 in
set_option maxHeartbeats 4000000 in
theorem negD_any {w : World} {Z : Nat → Prop} {bx : Nat} {x : GD} {da : Option Addr} {dc : Nat} (hx : Box w bx (.func (.func 60) #[] #[])) (hd : BytZ w Z da x.data) (hdc : x.data.size ≤ dc) (hbig : x.data.size ≤ 1000000) :
    Calls Tryz.prog 90 #[.agg #[.string x.m.nm, .int .i64 x.m.kd, .int .i64 x.m.ks, .int .i64 x.m.vs, .int .i64 x.m.mx, .slice da x.data.size dc], .pointer (some ⟨bx, 0, none⟩)] w fun e w' => e = .returned (.bool (!rightGD x)) ∧ Kept (fun _ => False) w w' := by
  have RT := Lib.hid (fun (w1 : World) (k : Kept (fun _ => False) w w1) => dump_right (x := x) (hd.kept k (fun _ _ _ e => e)) hdc hbig)
  have hb := hx.cell
  have hbl := hx.lt
  have HK := Lib.hid (Kept.refl (fun _ => False) w)
  clear hd hx
  go_enter Tryz.func90, Tryz.ntmps90
  go_wp2_with fail
  refine (RT.out _ (Kept.one_alloc w _)).mono ?_
  rintro e w1 ⟨rfl, k1⟩
  have K1 := Lib.hid k1
  clear k1 RT
  go_wp2_with fail
  go_ret
  exact ⟨rfl, Kept.trans (Kept.one_alloc w _) K1.out (fun _ _ e => e)⟩
set_option maxRecDepth 100000 in
set_option maxHeartbeats 4000000 in
theorem idxD_any {w : World} {Z : Nat → Prop} {bx : Nat} {a : Option Addr} {n c : Nat} {l : List GD} (hx : Box w bx (.func (.func 60) #[] #[])) (hr : RowZ tDump w Z a l) (hl : l.length = n) (hn : n ≤ 9223372036854775807) (hbg : ∀ x ∈ l, x.data.size ≤ 1000000) :
    Calls Tryz.prog 110 #[.slice a n c, .func (.func 90) #[] #[.pointer (some ⟨bx, 0, none⟩)]] w fun e w' => ∃ z : Int, e = .returned (.int .i64 z) ∧ (0 ≤ z ↔ ¬ l.all rightGD = true) ∧ Kept (fun _ => False) w w' := by
  have H := Lib.hid (And.intro hx (And.intro hr hl))
  clear hx hr hl
  go_enter Tryz.func110, Tryz.ntmps110
  go_wp2_with fail
  go_loopw [5, 8] (fun _ s8 wr => ∃ i : Nat, i ≤ n ∧ s8 = .int .i64 (i : Int) ∧ (∀ j x, j < i → l[j]? = some x → rightGD x = true) ∧ Kept (fun _ => False) w wr) (fun _ s8 _ => n - (intOf s8).toNat)
  case atStart => exact ⟨0, Nat.zero_le _, rfl, fun j x hj => absurd hj (Nat.not_lt_zero _), Kept.refl _ _⟩
  case round =>
    obtain ⟨i, hi, rfl, hall, hk⟩ := hrel
    by_cases hlt : i < n
    · have hin : (i : Int) < (n : Int) := by omega
      obtain ⟨x, hxi⟩ : ∃ x, l[i]? = some x := ⟨_, List.getElem?_eq_getElem (by rw [H.out.2.2]; exact hlt)⟩
      obtain ⟨b, o, da, dc, rfl, hb, -, hdc, hdz, c0, c1, c2, c3, c4, c5⟩ := (H.out.2.1.keep hk).dump hxi
      have R := Lib.hid (And.intro hall (And.intro hk hxi))
      have NG := Lib.hid (negD_any (w := wr) (x := x) (H.out.1.kept hk (fun e => e)) hdz hdc (hbg x (List.mem_of_getElem? hxi)))
      clear hall hk hxi hdz hdc
      go_wp2_with fail
      refine NG.out.mono ?_
      rintro e w1 ⟨rfl, k1⟩
      have K1 := Lib.hid k1
      clear k1 NG
      obtain ⟨p, hp⟩ : ∃ p, rightGD x = p := ⟨_, rfl⟩
      rw [hp]
      have HP := Lib.hid hp
      clear hp
      cases p
      · go_wp2_with fail
        go_ret
        refine ⟨_, rfl, ⟨fun _ hc => ?_, fun _ => by omega⟩, R.out.2.1.trans K1.out (fun _ _ e => e)⟩
        have := List.all_eq_true.1 hc x (List.mem_of_getElem? R.out.2.2)
        rw [HP.out] at this
        cases this
      · go_wp2_with fail
        refine ⟨⟨i + 1, hlt, rfl, fun j y hj hy => ?_, R.out.2.1.trans K1.out (fun _ _ e => e)⟩, by simp only [intOf]; omega⟩
        by_cases e : j = i
        · subst e
          rw [R.out.2.2] at hy
          cases hy
          exact HP.out
        · exact R.out.1 j y (by omega) hy
    · obtain rfl : i = n := by omega
      have R := Lib.hid (And.intro hall hk)
      clear hall hk
      go_wp2_with fail
      go_ret
      refine ⟨_, rfl, ⟨fun h => by omega, fun h => absurd (List.all_eq_true.2 fun x hx => ?_) h⟩, R.out.2⟩
      obtain ⟨j, hj, e⟩ := List.getElem_of_mem hx
      exact R.out.1 j x (by rw [← H.out.2.2]; exact hj) (by rw [← e]; exact List.getElem?_eq_getElem hj)
set_option maxRecDepth 100000 in
set_option maxHeartbeats 4000000 in
theorem conD_any {w : World} {Z : Nat → Prop} {bx : Nat} {a : Option Addr} {n c : Nat} {l : List GD} (hx : Box w bx (.func (.func 60) #[] #[])) (hr : RowZ tDump w Z a l) (hl : l.length = n) (hn : n ≤ 9223372036854775807) (hbg : ∀ x ∈ l, x.data.size ≤ 1000000) :
    Calls Tryz.prog 89 #[.slice a n c, .func (.func 90) #[] #[.pointer (some ⟨bx, 0, none⟩)]] w fun e w' => e = .returned (.bool (!l.all rightGD)) ∧ Kept (fun _ => False) w w' := by
  have IX := Lib.hid (idxD_any (c := c) hx hr hl hn hbg)
  clear hx hr hl
  go_enter Tryz.func89, Tryz.ntmps89
  go_wp2_with fail
  refine IX.out.mono ?_
  rintro e w1 ⟨z, rfl, hz, k1⟩
  have K1 := Lib.hid (And.intro k1 hz)
  clear k1 hz IX
  by_cases h0 : 0 ≤ z
  · go_wp2_with fail
    go_ret
    refine ⟨?_, K1.out.1⟩
    have := K1.out.2.1 h0
    simp only [Bool.not_eq_true] at this
    rw [this]
    rfl
  · have h1 : z < 0 := by omega
    go_wp2_with fail
    go_ret
    refine ⟨?_, K1.out.1⟩
    have : l.all rightGD = true := Classical.byContradiction fun e => by have := K1.out.2.2 e; omega
    rw [this]
    show Ending.returned (Value.bool (decide (0 ≤ z))) = _
    rw [decide_eq_false (by omega)]
    rfl
set_option maxRecDepth 100000 in
set_option maxHeartbeats 4000000 in
theorem allD_any {w : World} {Z : Nat → Prop} {a : Option Addr} {n c most : Nat} {l : List GD} (hr : RowZ tDump w Z a l) (hl : l.length = n) (hn : n ≤ 9223372036854775807) (hbg : ∀ x ∈ l, x.data.size ≤ 1000000) :
    Calls Tryz.prog 59 #[.slice a n c, .int .i64 (most : Int), .func (.func 60) #[] #[]] w fun e w' => e = .returned (.bool (decide (l.length ≤ most) && l.all rightGD)) ∧ Kept (fun _ => False) w w' := by
  have HL := Lib.hid hl
  obtain ⟨q, hq⟩ : ∃ q, w.heap.size = q := ⟨_, rfl⟩
  have kq := Kept.one_alloc w (.cells #[.func (.func 60) #[] #[]] 145)
  have CN := Lib.hid (conD_any (c := c) (w := w.alloc (.cells #[.func (.func 60) #[] #[]] 145)) (Box.new w _ _) (hr.keep kq) hl hn hbg)
  have KQ := Lib.hid kq
  clear hr hl kq hq q
  go_enter Tryz.func59, Tryz.ntmps59
  by_cases hm : n ≤ most
  · have hm1 : (n : Int) ≤ (most : Int) := by omega
    have HM := Lib.hid hm
    clear hm
    go_wp2_with fail
    refine CN.out.mono ?_
    rintro e w1 ⟨rfl, k1⟩
    have K1 := Lib.hid k1
    clear k1 CN
    go_wp2_with fail
    go_ret
    refine ⟨?_, KQ.out.trans K1.out (fun _ _ e => e)⟩
    rw [HL.out, decide_eq_true HM.out, Bool.true_and]
    rfl
  · have hm1 : ¬ (n : Int) ≤ (most : Int) := by omega
    have HM := Lib.hid hm
    clear hm
    go_wp2_with fail
    go_ret
    refine ⟨?_, KQ.out⟩
    rw [HL.out, decide_eq_false HM.out, Bool.false_and]
    rfl
end Go.Proofs.YtdkcnigghcbnpaaGreat

/- image: are all programs right? -/
namespace Go.Proofs.YtdkcnigghcbnpaaGreat
set_option linter.unusedVariables false
set_option linter.unusedSimpArgs false
open Go.RowKit Go.MapKept

set_option maxRecDepth 100000 in
set_option maxHeartbeats 4000000 in
theorem prog_right {w : World} {Z : Nat → Prop} {x : GP} {ca ma : Option Addr} {cc mc : Nat} (hr : RowZ tStr w Z ma x.maps) (hmc : x.maps.length ≤ 9223372036854775807) : Calls Tryz.prog 58 #[.agg #[.string x.nm, .slice ca x.code.size cc, .slice ma x.maps.length mc, .int .i64 x.ctx, .int .i64 x.emit]] w fun e w' => e = .returned (.bool (rightGP x)) ∧ Kept (fun _ => False) w w' := by
  obtain ⟨nm, code, maps, ctx, emit⟩ := x
  simp only at hr hmc ⊢
  obtain ⟨R, hR⟩ : ∃ R, rightGP ⟨nm, code, maps, ctx, emit⟩ = R := ⟨_, rfl⟩
  rw [hR]
  unfold rightGP at hR
  simp only at hR
  have AL := Lib.hid (fun (w1 : World) (k : Kept (fun _ => False) w w1) => allS_any (most := 16) (c := mc) (hr.keep k) rfl hmc)
  obtain ⟨M, hM⟩ : ∃ M, maps.length = M := ⟨_, rfl⟩
  obtain ⟨A, hA⟩ : ∃ A, (decide (maps.length ≤ 16) && maps.all nameB) = A := ⟨_, rfl⟩
  rw [hA] at hR AL
  rw [hM] at AL hmc ⊢
  obtain ⟨C, hC⟩ : ∃ C, code.size = C := ⟨_, rfl⟩
  rw [hC] at hR ⊢
  have HR := Lib.hid hR
  clear hR hr hM hA hC
  go_enter Tryz.func58, Tryz.ntmps58
  go_wp2_with fail
  refine (imgname_any nm _).mono ?_
  rintro e w1 ⟨rfl, k1⟩
  have kq := Kept.one_alloc w (.cells #[.string nm, .slice ca C cc, .slice ma M mc, .int .i64 ctx, .int .i64 emit] 99)
  have c1 : w1.cell? ⟨w.heap.size, 1, none⟩ = some (.slice ca C cc) := (k1.cell (p := ⟨w.heap.size, 1, none⟩) (by simp) (fun e => e)).trans (by simp)
  have c2 : w1.cell? ⟨w.heap.size, 2, none⟩ = some (.slice ma M mc) := (k1.cell (p := ⟨w.heap.size, 2, none⟩) (by simp) (fun e => e)).trans (by simp)
  have c3 : w1.cell? ⟨w.heap.size, 3, none⟩ = some (.int .i64 ctx) := (k1.cell (p := ⟨w.heap.size, 3, none⟩) (by simp) (fun e => e)).trans (by simp)
  have c4 : w1.cell? ⟨w.heap.size, 4, none⟩ = some (.int .i64 emit) := (k1.cell (p := ⟨w.heap.size, 4, none⟩) (by simp) (fun e => e)).trans (by simp)
  have hz1 : w.heap.size < w1.heap.size := Nat.lt_of_lt_of_le (by simp) k1.size
  have K1 := Lib.hid (kq.trans k1 (fun _ _ e => e))
  clear k1 kq
  generalize w.heap.size = b at *
  generalize nameB nm = nb at HR ⊢
  cases nb
  · go_wp2_with fail
    go_ret
    exact ⟨by rw [← HR.out]; rfl, K1.out⟩
  · by_cases hC : C ≤ 4096
    · have hC1 : (C : Int) ≤ 4096 := by omega
      have HC := Lib.hid hC
      clear hC
      go_wp2_with fail
      refine (AL.out _ K1.out).mono ?_
      rintro e w2 ⟨rfl, k2⟩
      have d3 := (k2.cell (p := ⟨b, 3, none⟩) hz1 (fun e => e)).trans c3
      have d4 := (k2.cell (p := ⟨b, 4, none⟩) hz1 (fun e => e)).trans c4
      have K2 := Lib.hid (K1.out.trans k2 (fun _ _ e => e))
      clear k2 c1 c2 c3 c4 hz1 AL
      cases A
      · go_wp2_with fail
        go_ret
        exact ⟨by rw [← HR.out, decide_eq_true HC.out]; rfl, K2.out⟩
      · go_wp2_with fail
        refine (imgwithin_any ctx 256 _).mono ?_
        rintro e w3 ⟨rfl, rfl⟩
        generalize inB ctx 256 = xb at HR ⊢
        cases xb
        · go_wp2_with fail
          go_ret
          exact ⟨by rw [← HR.out, decide_eq_true HC.out]; rfl, K2.out⟩
        · go_wp2_with fail
          refine (imgwithin_any emit 256 _).mono ?_
          rintro e w4 ⟨rfl, rfl⟩
          generalize inB emit 256 = eb at HR ⊢
          cases eb <;>
          · go_wp2_with fail
            go_ret
            exact ⟨by rw [← HR.out, decide_eq_true HC.out]; rfl, K2.out⟩
    · have hC1 : ¬ (C : Int) ≤ 4096 := by omega
      have HC := Lib.hid hC
      clear hC
      go_wp2_with fail
      go_ret
      exact ⟨by rw [← HR.out, decide_eq_false HC.out]; rfl, K1.out⟩

set_option maxRecDepth 100000 in
set_option maxHeartbeats 4000000 in
theorem negP_any {w : World} {Z : Nat → Prop} {bx : Nat} {x : GP} {ca ma : Option Addr} {cc mc : Nat} (hx : Box w bx (.func (.func 58) #[] #[])) (hr : RowZ tStr w Z ma x.maps) (hmc : x.maps.length ≤ 9223372036854775807) :
    Calls Tryz.prog 85 #[.agg #[.string x.nm, .slice ca x.code.size cc, .slice ma x.maps.length mc, .int .i64 x.ctx, .int .i64 x.emit], .pointer (some ⟨bx, 0, none⟩)] w fun e w' => e = .returned (.bool (!rightGP x)) ∧ Kept (fun _ => False) w w' := by
  have RT := Lib.hid (fun (w1 : World) (k : Kept (fun _ => False) w w1) => prog_right (x := x) (ca := ca) (cc := cc) (mc := mc) (hr.keep k) hmc)
  have hb := hx.cell
  have hbl := hx.lt
  have HK := Lib.hid (Kept.refl (fun _ => False) w)
  clear hr hx
  go_enter Tryz.func85, Tryz.ntmps85
  go_wp2_with fail
  refine (RT.out _ (Kept.one_alloc w _)).mono ?_
  rintro e w1 ⟨rfl, k1⟩
  have K1 := Lib.hid k1
  clear k1 RT
  go_wp2_with fail
  go_ret
  exact ⟨rfl, Kept.trans (Kept.one_alloc w _) K1.out (fun _ _ e => e)⟩
set_option maxRecDepth 100000 in
set_option maxHeartbeats 4000000 in
theorem idxP_any {w : World} {Z : Nat → Prop} {bx : Nat} {a : Option Addr} {n c : Nat} {l : List GP} (hx : Box w bx (.func (.func 58) #[] #[])) (hr : RowZ tProg w Z a l) (hl : l.length = n) (hn : n ≤ 9223372036854775807) (hbg : ∀ x ∈ l, x.maps.length ≤ 9223372036854775807) :
    Calls Tryz.prog 107 #[.slice a n c, .func (.func 85) #[] #[.pointer (some ⟨bx, 0, none⟩)]] w fun e w' => ∃ z : Int, e = .returned (.int .i64 z) ∧ (0 ≤ z ↔ ¬ l.all rightGP = true) ∧ Kept (fun _ => False) w w' := by
  have H := Lib.hid (And.intro hx (And.intro hr hl))
  clear hx hr hl
  go_enter Tryz.func107, Tryz.ntmps107
  go_wp2_with fail
  go_loopw [5, 8] (fun _ s8 wr => ∃ i : Nat, i ≤ n ∧ s8 = .int .i64 (i : Int) ∧ (∀ j x, j < i → l[j]? = some x → rightGP x = true) ∧ Kept (fun _ => False) w wr) (fun _ s8 _ => n - (intOf s8).toNat)
  case atStart => exact ⟨0, Nat.zero_le _, rfl, fun j x hj => absurd hj (Nat.not_lt_zero _), Kept.refl _ _⟩
  case round =>
    obtain ⟨i, hi, rfl, hall, hk⟩ := hrel
    by_cases hlt : i < n
    · have hin : (i : Int) < (n : Int) := by omega
      obtain ⟨x, hxi⟩ : ∃ x, l[i]? = some x := ⟨_, List.getElem?_eq_getElem (by rw [H.out.2.2]; exact hlt)⟩
      obtain ⟨b, o, ca, cc, ma, mc, rfl, hb, -, hcc, hmc, hcz, hmz, c0, c1, c2, c3, c4⟩ := (H.out.2.1.keep hk).prog hxi
      have R := Lib.hid (And.intro hall (And.intro hk hxi))
      have NG := Lib.hid (negP_any (w := wr) (x := x) (H.out.1.kept hk (fun e => e)) (ca := ca) (cc := cc) (mc := mc) hmz (hbg x (List.mem_of_getElem? hxi)))
      clear hall hk hxi hcz hmz
      go_wp2_with fail
      refine NG.out.mono ?_
      rintro e w1 ⟨rfl, k1⟩
      have K1 := Lib.hid k1
      clear k1 NG
      obtain ⟨p, hp⟩ : ∃ p, rightGP x = p := ⟨_, rfl⟩
      rw [hp]
      have HP := Lib.hid hp
      clear hp
      cases p
      · go_wp2_with fail
        go_ret
        refine ⟨_, rfl, ⟨fun _ hc => ?_, fun _ => by omega⟩, R.out.2.1.trans K1.out (fun _ _ e => e)⟩
        have := List.all_eq_true.1 hc x (List.mem_of_getElem? R.out.2.2)
        rw [HP.out] at this
        cases this
      · go_wp2_with fail
        refine ⟨⟨i + 1, hlt, rfl, fun j y hj hy => ?_, R.out.2.1.trans K1.out (fun _ _ e => e)⟩, by simp only [intOf]; omega⟩
        by_cases e : j = i
        · subst e
          rw [R.out.2.2] at hy
          cases hy
          exact HP.out
        · exact R.out.1 j y (by omega) hy
    · obtain rfl : i = n := by omega
      have R := Lib.hid (And.intro hall hk)
      clear hall hk
      go_wp2_with fail
      go_ret
      refine ⟨_, rfl, ⟨fun h => by omega, fun h => absurd (List.all_eq_true.2 fun x hx => ?_) h⟩, R.out.2⟩
      obtain ⟨j, hj, e⟩ := List.getElem_of_mem hx
      exact R.out.1 j x (by rw [← H.out.2.2]; exact hj) (by rw [← e]; exact List.getElem?_eq_getElem hj)
set_option maxRecDepth 100000 in
set_option maxHeartbeats 4000000 in
theorem conP_any {w : World} {Z : Nat → Prop} {bx : Nat} {a : Option Addr} {n c : Nat} {l : List GP} (hx : Box w bx (.func (.func 58) #[] #[])) (hr : RowZ tProg w Z a l) (hl : l.length = n) (hn : n ≤ 9223372036854775807) (hbg : ∀ x ∈ l, x.maps.length ≤ 9223372036854775807) :
    Calls Tryz.prog 84 #[.slice a n c, .func (.func 85) #[] #[.pointer (some ⟨bx, 0, none⟩)]] w fun e w' => e = .returned (.bool (!l.all rightGP)) ∧ Kept (fun _ => False) w w' := by
  have IX := Lib.hid (idxP_any (c := c) hx hr hl hn hbg)
  clear hx hr hl
  go_enter Tryz.func84, Tryz.ntmps84
  go_wp2_with fail
  refine IX.out.mono ?_
  rintro e w1 ⟨z, rfl, hz, k1⟩
  have K1 := Lib.hid (And.intro k1 hz)
  clear k1 hz IX
  by_cases h0 : 0 ≤ z
  · go_wp2_with fail
    go_ret
    refine ⟨?_, K1.out.1⟩
    have := K1.out.2.1 h0
    simp only [Bool.not_eq_true] at this
    rw [this]
    rfl
  · have h1 : z < 0 := by omega
    go_wp2_with fail
    go_ret
    refine ⟨?_, K1.out.1⟩
    have : l.all rightGP = true := Classical.byContradiction fun e => by have := K1.out.2.2 e; omega
    rw [this]
    show Ending.returned (Value.bool (decide (0 ≤ z))) = _
    rw [decide_eq_false (by omega)]
    rfl
set_option maxRecDepth 100000 in
set_option maxHeartbeats 4000000 in
theorem allP_any {w : World} {Z : Nat → Prop} {a : Option Addr} {n c most : Nat} {l : List GP} (hr : RowZ tProg w Z a l) (hl : l.length = n) (hn : n ≤ 9223372036854775807) (hbg : ∀ x ∈ l, x.maps.length ≤ 9223372036854775807) :
    Calls Tryz.prog 57 #[.slice a n c, .int .i64 (most : Int), .func (.func 58) #[] #[]] w fun e w' => e = .returned (.bool (decide (l.length ≤ most) && l.all rightGP)) ∧ Kept (fun _ => False) w w' := by
  have HL := Lib.hid hl
  obtain ⟨q, hq⟩ : ∃ q, w.heap.size = q := ⟨_, rfl⟩
  have kq := Kept.one_alloc w (.cells #[.func (.func 58) #[] #[]] 143)
  have CN := Lib.hid (conP_any (c := c) (w := w.alloc (.cells #[.func (.func 58) #[] #[]] 143)) (Box.new w _ _) (hr.keep kq) hl hn hbg)
  have KQ := Lib.hid kq
  clear hr hl kq hq q
  go_enter Tryz.func57, Tryz.ntmps57
  by_cases hm : n ≤ most
  · have hm1 : (n : Int) ≤ (most : Int) := by omega
    have HM := Lib.hid hm
    clear hm
    go_wp2_with fail
    refine CN.out.mono ?_
    rintro e w1 ⟨rfl, k1⟩
    have K1 := Lib.hid k1
    clear k1 CN
    go_wp2_with fail
    go_ret
    refine ⟨?_, KQ.out.trans K1.out (fun _ _ e => e)⟩
    rw [HL.out, decide_eq_true HM.out, Bool.true_and]
    rfl
  · have hm1 : ¬ (n : Int) ≤ (most : Int) := by omega
    have HM := Lib.hid hm
    clear hm
    go_wp2_with fail
    go_ret
    refine ⟨?_, KQ.out⟩
    rw [HL.out, decide_eq_false HM.out, Bool.false_and]
    rfl
end Go.Proofs.YtdkcnigghcbnpaaGreat

/- image.Right. -/
namespace Go.Proofs.YtdkcnigghcbnpaaGreat
set_option linter.unusedVariables false
set_option linter.unusedSimpArgs false
open Go.RowKit Go.MapKept

/-- No row of an image is longer than a row may be; no map's bytes are more than a million. -/
structure GI.small (x : GI) : Prop where
  P : x.P.length ≤ 9223372036854775807
  D : x.D.length ≤ 9223372036854775807
  L : x.L.length ≤ 9223372036854775807
  m : ∀ p ∈ x.P, p.maps.length ≤ 9223372036854775807
  d : ∀ d ∈ x.D, d.data.size ≤ 1000000
set_option maxRecDepth 100000 in
set_option maxHeartbeats 4000000 in
theorem imgright_any {w : World} {Z : Nat → Prop} {v : Value} {x : GI} (h : ImgAt w Z v x) (hs : x.small) : Calls Tryz.prog 37 #[v] w fun e w' => e = .returned (.bool (rightGI x)) ∧ Kept (fun _ => False) w w' := by
  obtain ⟨pa, pc, da, dc, la, lc, rfl, h1, h2, h3, z1, z2, z3⟩ := h
  have AP := Lib.hid (fun (w1 : World) (k : Kept (fun _ => False) w w1) => allP_any (most := 64) (c := pc) (z1.keep k) rfl hs.P hs.m)
  have AD := Lib.hid (fun (w1 : World) (k : Kept (fun _ => False) w w1) => allD_any (most := 64) (c := dc) (z2.keep k) rfl hs.D hs.d)
  have AL := Lib.hid (fun (w1 : World) (k : Kept (fun _ => False) w w1) => allL_any (most := 64) (c := lc) (z3.keep k) rfl hs.L)
  have HR := Lib.hid (show rightGI x = ((decide (x.P.length ≤ 64) && x.P.all rightGP) && ((decide (x.D.length ≤ 64) && x.D.all rightGD) && (decide (x.L.length ≤ 64) && x.L.all rightGL))) from rfl)
  clear z1 z2 z3 hs h1 h2 h3
  generalize rightGI x = R at *
  generalize (decide (x.P.length ≤ 64) && x.P.all rightGP) = bP at *
  generalize (decide (x.D.length ≤ 64) && x.D.all rightGD) = bD at *
  generalize (decide (x.L.length ≤ 64) && x.L.all rightGL) = bL at *
  generalize x.P.length = n1 at *
  generalize x.D.length = n2 at *
  generalize x.L.length = n3 at *
  go_enter Tryz.func37, Tryz.ntmps37
  go_wp2_with fail
  have kq := Kept.one_alloc w (.cells #[.slice pa n1 pc, .slice da n2 dc, .slice la n3 lc] 75)
  refine (AP.out _ kq).mono ?_
  rintro e w1 ⟨rfl, k1⟩
  have c1 : w1.cell? ⟨w.heap.size, 1, none⟩ = some (.slice da n2 dc) := (k1.cell (p := ⟨w.heap.size, 1, none⟩) (by simp) (fun e => e)).trans (by simp)
  have c2 : w1.cell? ⟨w.heap.size, 2, none⟩ = some (.slice la n3 lc) := (k1.cell (p := ⟨w.heap.size, 2, none⟩) (by simp) (fun e => e)).trans (by simp)
  have hz1 : w.heap.size < w1.heap.size := Nat.lt_of_lt_of_le (by simp) k1.size
  have K1 := Lib.hid (kq.trans k1 (fun _ _ e => e))
  clear k1 kq AP
  generalize w.heap.size = b at *
  cases bP
  · go_wp2_with fail
    go_ret
    exact ⟨by rw [HR.out]; rfl, K1.out⟩
  · go_wp2_with fail
    refine (AD.out _ K1.out).mono ?_
    rintro e w2 ⟨rfl, k2⟩
    have d2 := (k2.cell (p := ⟨b, 2, none⟩) hz1 (fun e => e)).trans c2
    have K2 := Lib.hid (K1.out.trans k2 (fun _ _ e => e))
    clear k2 c1 c2 hz1 AD
    cases bD
    · go_wp2_with fail
      go_ret
      exact ⟨by rw [HR.out]; rfl, K2.out⟩
    · go_wp2_with fail
      refine (AL.out _ K2.out).mono ?_
      rintro e w3 ⟨rfl, k3⟩
      have K3 := Lib.hid (K2.out.trans k3 (fun _ _ e => e))
      clear k3 AL
      cases bL <;>
      · go_wp2_with fail
        go_ret
        exact ⟨by rw [HR.out]; rfl, K3.out⟩
end Go.Proofs.YtdkcnigghcbnpaaGreat
