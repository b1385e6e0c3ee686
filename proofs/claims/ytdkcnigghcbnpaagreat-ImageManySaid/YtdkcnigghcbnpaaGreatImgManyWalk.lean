/- law18.ImageMany answers true. -/
import Derived.Test.YtdkcnigghcbnpaaGreatImgNamesWalk
import Derived.Test.YtdkcnigghcbnpaaGreatGenA
namespace Go.Proofs.YtdkcnigghcbnpaaGreat
set_option linter.unusedVariables false
set_option linter.unusedSimpArgs false
open Go.RowKit Go.MapKept

def mProg (j : Nat) : GP := ⟨⟨#[112]⟩, ByteArray.empty, [], (j : Int), 0⟩
def mDump (j : Nat) : GD := ⟨⟨⟨#[109]⟩, 2, 1, 1, 1 + (j : Int)⟩, ByteArray.empty⟩
def mLink (j : Nat) : GL := ⟨⟨#[108]⟩, ⟨#[112]⟩, (j : Int)⟩
def mImg (A B C : Nat) : GI := ⟨(List.range A).map mProg, (List.range B).map mDump, (List.range C).map mLink⟩
theorem nameB_m : nameB ⟨#[109]⟩ = true := by decide
theorem many_right {A B C : Nat} (hA : A ≤ 80) (hB : B ≤ 80) (hC : C ≤ 80) : rightGI (mImg A B C) = (decide (A ≤ 64) && (decide (B ≤ 64) && decide (C ≤ 64))) := by
  have h1 : ((List.range A).map mProg).all rightGP = true := List.all_eq_true.2 fun p hp => by
    obtain ⟨j, hj, rfl⟩ := List.mem_map.1 hp
    have hj := List.mem_range.1 hj
    have e : rightGP (mProg j) = inB (j : Int) 256 := by
      unfold rightGP mProg
      simp only
      rw [nameB_p]
      simp [inB]
    rw [e, inB_iff]
    omega
  have h2 : ((List.range B).map mDump).all rightGD = true := List.all_eq_true.2 fun p hp => by
    obtain ⟨j, hj, rfl⟩ := List.mem_map.1 hp
    have hj := List.mem_range.1 hj
    unfold mDump
    rw [nm_D _ 2 _ (.inl rfl) ⟨by omega, by omega⟩]
    exact nameB_m
  have h3 : ((List.range C).map mLink).all rightGL = true := List.all_eq_true.2 fun p hp => by
    obtain ⟨j, hj, rfl⟩ := List.mem_map.1 hp
    have hj := List.mem_range.1 hj
    have e : rightGL (mLink j) = inB (j : Int) 1073741824 := by
      unfold rightGL mLink
      simp only
      rw [nameB_p, nameB_l]
      simp
    rw [e, inB_iff]
    omega
  unfold rightGI mImg
  simp only
  rw [h1, h2, h3]
  simp
theorem many_small (A B C : Nat) (hA : A ≤ 80) (hB : B ≤ 80) (hC : C ≤ 80) : (mImg A B C).small := ⟨by simp [mImg]; omega, by simp [mImg]; omega, by simp [mImg]; omega, (fun p hp => by
  obtain ⟨j, hj, rfl⟩ := List.mem_map.1 hp
  exact Nat.zero_le _), (fun p hp => by
  obtain ⟨j, hj, rfl⟩ := List.mem_map.1 hp
  exact Nat.zero_le _)⟩
theorem many_d5 (A B C : Nat) : ∀ d ∈ (mImg A B C).D, d.data.size ≤ 5000 := fun p hp => by
  obtain ⟨j, hj, rfl⟩ := List.mem_map.1 hp
  exact Nat.zero_le _
theorem many_mx (B : Nat) : ((B : Int) + 1 == 0 || (mDump B).m.mx == (B : Int) + 1) = true := by
  have e : (mDump B).m.mx = (B : Int) + 1 := by
    show (1 : Int) + (B : Int) = _
    omega
  rw [e]
  simp
theorem many_at {α : Type} {f : Nat → α} {n i : Nat} (h : i < n) : ((List.range n).map f)[i]? = some (f i) := by
  rw [List.getElem?_map, List.getElem?_range h]
  rfl
theorem own_cap {α : Type} {T : Thing α} {ty : TypeId} {w : World} {Z : Nat → Prop} {a : Option Addr} {n c : Nat} {l : List α} (h : OwnT T ty w Z (.slice a n c) l) : l.length ≤ c ∧ RowZ T w Z a l := by
  obtain ⟨a', c', e, h1, h2⟩ := h.form
  cases e
  exact ⟨h1, h2⟩
theorem mask81 (x : Int) : ∃ A : Nat, (bits .and .i64 x 65535).tmod 81 = (A : Int) ∧ A ≤ 80 := by
  obtain ⟨m, hm, _⟩ := mask_nat x 16 (by decide) 65535 rfl
  refine ⟨m % 81, ?_, by omega⟩
  rw [hm]
  exact tmod_nat m 81
set_option maxRecDepth 100000 in
set_option maxHeartbeats 4000000 in
theorem imageMany_any (x0 x1 x2 : Int) (W : World) (wf0 : (Lit.int .i64 x0).wf = true) (wf1 : (Lit.int .i64 x1).wf = true) (wf2 : (Lit.int .i64 x2).wf = true) : Calls Tryz.prog 13 #[.int .i64 x0, .int .i64 x1, .int .i64 x2] W fun e w' => e = .returned (.bool true) ∧ Kept (fun _ => False) W w' := by
  obtain ⟨A, g1, hA⟩ := mask81 x0
  obtain ⟨B, g2, hB⟩ := mask81 x1
  obtain ⟨C, g3, hC⟩ := mask81 x2
  clear wf0 wf1 wf2
  go_enter Tryz.func13, Tryz.ntmps13
  go_wp2_with fail
  refine (shown18_any W).mono ?_
  rintro e w1 ⟨rfl, k1⟩
  have K1 := Lib.hid k1
  clear k1
  go_wp2_with fail
  clear g1 g2 g3
  obtain ⟨xb, hxb⟩ : ∃ xb, w1.heap.size = xb := ⟨_, rfl⟩
  obtain ⟨wS0, hwS⟩ : ∃ wS0, w1.alloc (.cells #[.slice none 0 0, .slice none 0 0, .slice none 0 0] 75) = wS0 := ⟨_, rfl⟩
  have KS := Lib.hid (show Kept (fun _ => False) w1 wS0 from by rw [← hwS]; exact Kept.one_alloc _ _)
  have S0 := Lib.hid (show RowAt wS0 xb 3 ∧ wS0.cell? ⟨xb, 0, none⟩ = some (.slice none 0 0) ∧ wS0.cell? ⟨xb, 1, none⟩ = some (.slice none 0 0) ∧ wS0.cell? ⟨xb, 2, none⟩ = some (.slice none 0 0) from by
    have h := fun i => World.cell?_alloc_new w1 #[.slice none 0 0, .slice none 0 0, .slice none 0 0] 75 i
    have hr := RowAt.new w1 #[.slice none 0 0, .slice none 0 0, .slice none 0 0] 75
    rw [hwS, hxb] at hr
    rw [hwS, hxb] at h
    exact ⟨hr, h 0, h 1, h 2⟩)
  obtain ⟨bd0, hbd⟩ : ∃ bd0, wS0.heap.size = bd0 := ⟨_, rfl⟩
  have HXB0 := Lib.hid (show xb < bd0 from by rw [← hbd]; exact S0.out.1.lt)
  have HBD0 := Lib.hid (show bd0 ≤ wS0.heap.size from Nat.le_of_eq hbd.symm)
  have HX1 := Lib.hid hxb
  rw [hwS, hxb]
  clear hwS hxb hbd
  go_loopw [9] (fun s9 wr => ∃ (i : Nat) (a4 : Option Addr) (c4 : Nat), i ≤ A ∧ s9 = .int .i64 (i : Int) ∧ RowAt wr xb 3 ∧ wr.cell? ⟨xb, 0, none⟩ = some (.slice a4 i c4) ∧ wr.cell? ⟨xb, 1, none⟩ = some (.slice none 0 0) ∧ wr.cell? ⟨xb, 2, none⟩ = some (.slice none 0 0) ∧ OwnT tProg 99 wr (fun b => bd0 ≤ b) (.slice a4 i c4) ((List.range i).map mProg) ∧ Kept (fun b => b = xb ∨ bd0 ≤ b) wS0 wr) (fun s9 _ => A - (intOf s9).toNat)
  case atStart => exact ⟨0, none, 0, Nat.zero_le _, rfl, S0.out.1, S0.out.2.1, S0.out.2.2.1, S0.out.2.2.2, OwnT.nil, Kept.refl _ _⟩
  case' round =>
    obtain ⟨i, a4, c4, hi, rfl, hrw, hck, h1, h2, hown, hk⟩ := hrel
    have hlen : ((List.range i).map mProg).length = i := by simp
    have R := Lib.hid (And.intro hown (And.intro hk (And.intro hlen hrw)))
  by_cases hlt : i < A
  · have hin : (i : Int) < (A : Int) := by omega
    obtain ⟨css, ho, hcl, hat, hz⟩ := hown
    have hx1 : tProg.at_ wr (fun b => bd0 ≤ b ∧ (Value.slice a4 i c4).ownBlock ≠ some b) ((mProg i)) [.string ⟨#[112]⟩, .slice none 0 0, .slice none 0 0, .int .i64 (i : Int), .int .i64 0] := ⟨none, 0, none, 0, rfl, Nat.le_refl _, Nat.le_refl _, bytz_none, RowZ.nil⟩
    rw [hlen] at ho hcl
    have kq := Kept.one_alloc wr (.cells #[.string ⟨#[112]⟩, .slice none 0 0, .slice none 0 0, .int .i64 (i : Int), .int .i64 0] 99)
    have HROW := Lib.hid (ownsRow_kept ho kq (fun _ _ e => e))
    have X := Lib.hid (And.intro hcl (And.intro hat (And.intro hz hx1)))
    have HLL := Lib.hid (show i + 1 ≤ 100 from by omega)
    clear ho hcl hat hz hx1 kq hk hlen hrw
    go_wp2_with (at_builtin; refine wpList_append_mine rfl _ _ progE rfl rfl HROW.out (some ⟨wr.heap.size, 0, none⟩) 1 1 [.string ⟨#[112]⟩, .slice none 0 0, .slice none 0 0, .int .i64 (i : Int), .int .i64 0] rfl rfl (holds_block (heap_alloc_new wr _)) (by simp [Value.oneCell']) (Nat.le_trans HLL.out (by decide)) (Nat.le_trans (Nat.mul_le_mul_right 80 HLL.out) (by decide)) ?_; intro a3 c3 w6 own6 k6 b6; have hne6 : ¬ (Value.slice a4 i c4).ownBlock = some xb := (fun e => by have := X.out.2.2.1 xb e; have := HXB0.out; omega); have hc6 : w6.cell? ⟨xb, 0, none⟩ = some (.slice a4 i c4) := ((k6.cell (p := ⟨xb, 0, none⟩) (Nat.lt_of_lt_of_le R.out.2.2.2.lt (Kept.one_alloc wr _).size) hne6).trans ((Kept.one_alloc wr _).cell (p := ⟨xb, 0, none⟩) R.out.2.2.2.lt (fun e => e))).trans hck; have hf6 : w6.frozen? ⟨xb, 0, none⟩ = false := ((R.out.2.2.2.kept (Kept.one_alloc wr _) (fun e => e)).kept k6 hne6).frozen 0; have HNE6 := Lib.hid hne6; have O6 := Lib.hid (And.intro own6 (And.intro k6 b6)); clear own6 k6 b6 hne6)
    obtain ⟨hcl, hat, hz, hx1⟩ := X.out
    obtain ⟨hown, hk, hlen, hrw⟩ := R.out
    have hne6 := HNE6.out
    have kq := Kept.one_alloc wr (.cells #[.string ⟨#[112]⟩, .slice none 0 0, .slice none 0 0, .int .i64 (i : Int), .int .i64 0] 99)
    have hsn := OwnT.snoc (T := tProg) (l := (List.range i).map mProg) (x := (mProg i)) (css := css) (Z := fun b => bd0 ≤ b) (by rw [hlen]; exact HROW.out) (by rw [hlen]; exact hcl) (fun i x cs h1 h2 => tProg.kept (hat i x cs h1 h2) kq (fun _ _ _ e => e)) hz (tProg.kept hx1 kq (fun _ _ _ e => e)) (by rw [hlen]; exact O6.out.1) O6.out.2.1 O6.out.2.2
    have hbd : bd0 ≤ wr.heap.size := Nat.le_trans HBD0.out hk.size
    have hown6 : OwnT tProg 99 w6 (fun b => bd0 ≤ b) (.slice a3 (i + 1) c3) ((List.range (i + 1)).map mProg) := by
      rw [show (List.range (i + 1)).map mProg = (List.range i).map mProg ++ [(mProg i)] from by rw [List.range_succ, List.map_append]; rfl]
      exact hsn.mono (fun b _ hb => hb.elim id (fun e => by have := kq.size; show bd0 ≤ b; omega))
    have k06 : Kept (fun b => (Value.slice a4 i c4).ownBlock = some b) wr w6 := (kq.mono (S' := fun b => (Value.slice a4 i c4).ownBlock = some b) (fun _ _ e => e.elim)).trans O6.out.2.1 (fun _ _ e => e)
    have hrw6 := hrw.kept k06 hne6
    have ks := Kept.one_set w6 ⟨xb, 0, none⟩ (.slice a3 (i + 1) c3)
    have k0s : Kept (fun b => b = xb ∨ bd0 ≤ b) wr _ := (k06.mono (S' := fun b => b = xb ∨ bd0 ≤ b) (fun b _ e => .inr (hz b e))).trans ks (fun _ _ e => .inl e)
    refine ⟨⟨i + 1, a3, c3, hlt, rfl, hrw6.setCell _ _, cell_set_same hrw6 (by omega) _, (show (w6.setCell ⟨xb, 0, none⟩ (.slice a3 (i + 1) c3)).cell? ⟨xb, 1, none⟩ = some (.slice none 0 0) from (World.cell?_setCell_other _ _ _ _ (by simp)).trans ((k06.cell (p := ⟨xb, 1, none⟩) hrw.lt hne6).trans h1)), (show (w6.setCell ⟨xb, 0, none⟩ (.slice a3 (i + 1) c3)).cell? ⟨xb, 2, none⟩ = some (.slice none 0 0) from (World.cell?_setCell_other _ _ _ _ (by simp)).trans ((k06.cell (p := ⟨xb, 2, none⟩) hrw.lt hne6).trans h2)), hown6.kept ks (fun b _ hb e => by have e : b = xb := e; have hb : bd0 ≤ b := hb; have := HXB0.out; omega), hk.trans k0s (fun _ _ e => e)⟩, by simp only [intOf]; omega⟩
  · obtain rfl : A = i := by omega
    clear hlt hi
    have hfm := own_cap hown
    have F0 := Lib.hid (And.intro (show A ≤ c4 from by have := hfm.1; rw [hlen] at this; exact this) (And.intro (hfm.2.mono (Z' := fun b => bd0 ≤ b ∧ b < wr.heap.size) (fun b hb hz => ⟨hz, hb⟩)) hk))
    clear hfm hown hk hlen
    obtain ⟨a0, rfl⟩ : ∃ a, a = a4 := ⟨_, rfl⟩
    obtain ⟨c0, rfl⟩ : ∃ c, c = c4 := ⟨_, rfl⟩
    have S1 := Lib.hid (show RowAt wr xb 3 ∧ wr.cell? ⟨xb, 0, none⟩ = some (.slice a0 A c0) ∧ wr.cell? ⟨xb, 1, none⟩ = some (.slice none 0 0) ∧ wr.cell? ⟨xb, 2, none⟩ = some (.slice none 0 0) from ⟨hrw, hck, h1, h2⟩)
    clear R hck h1 h2 hrw
    obtain ⟨wS1, hw1⟩ : ∃ w', wr = w' := ⟨_, rfl⟩
    rw [hw1] at S1 F0 ⊢
    clear hw1
    obtain ⟨bd1, hbd⟩ : ∃ bd', wS1.heap.size = bd' := ⟨_, rfl⟩
    have HXB1 := Lib.hid (show xb < bd1 from by rw [← hbd]; exact S1.out.1.lt)
    have HBD1 := Lib.hid (show bd1 ≤ wS1.heap.size from Nat.le_of_eq hbd.symm)
    have HBE1 := Lib.hid hbd
    clear hbd
    go_wp2_with fail
    go_loopw [10] (fun s10 wr => ∃ (i : Nat) (a4 : Option Addr) (c4 : Nat), i ≤ B ∧ s10 = .int .i64 (i : Int) ∧ RowAt wr xb 3 ∧ wr.cell? ⟨xb, 1, none⟩ = some (.slice a4 i c4) ∧ wr.cell? ⟨xb, 0, none⟩ = some (.slice a0 A c0) ∧ wr.cell? ⟨xb, 2, none⟩ = some (.slice none 0 0) ∧ OwnT tDump 101 wr (fun b => bd1 ≤ b) (.slice a4 i c4) ((List.range i).map mDump) ∧ Kept (fun b => b = xb ∨ bd1 ≤ b) wS1 wr) (fun s10 _ => B - (intOf s10).toNat)
    case atStart => exact ⟨0, none, 0, Nat.zero_le _, rfl, S1.out.1, S1.out.2.2.1, S1.out.2.1, S1.out.2.2.2, OwnT.nil, Kept.refl _ _⟩
    case' round =>
      obtain ⟨i, a4, c4, hi, rfl, hrw, hck, h0, h2, hown, hk⟩ := hrel
      have hlen : ((List.range i).map mDump).length = i := by simp
      have R := Lib.hid (And.intro hown (And.intro hk (And.intro hlen hrw)))
    by_cases hlt : i < B
    · have hin : (i : Int) < (B : Int) := by omega
      obtain ⟨css, ho, hcl, hat, hz⟩ := hown
      have hx1 : tDump.at_ wr (fun b => bd1 ≤ b ∧ (Value.slice a4 i c4).ownBlock ≠ some b) ((mDump i)) [.string ⟨#[109]⟩, .int .i64 2, .int .i64 1, .int .i64 1, .int .i64 (1 + (i : Int)), .slice none 0 0] := ⟨none, 0, rfl, Nat.le_refl _, bytz_none⟩
      rw [hlen] at ho hcl
      have kq := Kept.one_alloc wr (.cells #[.string ⟨#[109]⟩, .int .i64 2, .int .i64 1, .int .i64 1, .int .i64 (1 + (i : Int)), .slice none 0 0] 101)
      have HROW := Lib.hid (ownsRow_kept ho kq (fun _ _ e => e))
      have X := Lib.hid (And.intro hcl (And.intro hat (And.intro hz hx1)))
      have HLL := Lib.hid (show i + 1 ≤ 100 from by omega)
      clear ho hcl hat hz hx1 kq hk hlen hrw
      go_wp2_with (at_builtin; refine wpList_append_mine rfl _ _ dumpE rfl rfl HROW.out (some ⟨wr.heap.size, 0, none⟩) 1 1 [.string ⟨#[109]⟩, .int .i64 2, .int .i64 1, .int .i64 1, .int .i64 (1 + (i : Int)), .slice none 0 0] rfl rfl (holds_block (heap_alloc_new wr _)) (by simp [Value.oneCell']) (Nat.le_trans HLL.out (by decide)) (Nat.le_trans (Nat.mul_le_mul_right 72 HLL.out) (by decide)) ?_; intro a3 c3 w6 own6 k6 b6; have hne6 : ¬ (Value.slice a4 i c4).ownBlock = some xb := (fun e => by have := X.out.2.2.1 xb e; have := HXB1.out; omega); have hc6 : w6.cell? ⟨xb, 1, none⟩ = some (.slice a4 i c4) := ((k6.cell (p := ⟨xb, 1, none⟩) (Nat.lt_of_lt_of_le R.out.2.2.2.lt (Kept.one_alloc wr _).size) hne6).trans ((Kept.one_alloc wr _).cell (p := ⟨xb, 1, none⟩) R.out.2.2.2.lt (fun e => e))).trans hck; have hf6 : w6.frozen? ⟨xb, 1, none⟩ = false := ((R.out.2.2.2.kept (Kept.one_alloc wr _) (fun e => e)).kept k6 hne6).frozen 1; have HNE6 := Lib.hid hne6; have O6 := Lib.hid (And.intro own6 (And.intro k6 b6)); clear own6 k6 b6 hne6)
      obtain ⟨hcl, hat, hz, hx1⟩ := X.out
      obtain ⟨hown, hk, hlen, hrw⟩ := R.out
      have hne6 := HNE6.out
      have kq := Kept.one_alloc wr (.cells #[.string ⟨#[109]⟩, .int .i64 2, .int .i64 1, .int .i64 1, .int .i64 (1 + (i : Int)), .slice none 0 0] 101)
      have hsn := OwnT.snoc (T := tDump) (l := (List.range i).map mDump) (x := (mDump i)) (css := css) (Z := fun b => bd1 ≤ b) (by rw [hlen]; exact HROW.out) (by rw [hlen]; exact hcl) (fun i x cs h1 h2 => tDump.kept (hat i x cs h1 h2) kq (fun _ _ _ e => e)) hz (tDump.kept hx1 kq (fun _ _ _ e => e)) (by rw [hlen]; exact O6.out.1) O6.out.2.1 O6.out.2.2
      have hbd : bd1 ≤ wr.heap.size := Nat.le_trans HBD1.out hk.size
      have hown6 : OwnT tDump 101 w6 (fun b => bd1 ≤ b) (.slice a3 (i + 1) c3) ((List.range (i + 1)).map mDump) := by
        rw [show (List.range (i + 1)).map mDump = (List.range i).map mDump ++ [(mDump i)] from by rw [List.range_succ, List.map_append]; rfl]
        exact hsn.mono (fun b _ hb => hb.elim id (fun e => by have := kq.size; show bd1 ≤ b; omega))
      have k06 : Kept (fun b => (Value.slice a4 i c4).ownBlock = some b) wr w6 := (kq.mono (S' := fun b => (Value.slice a4 i c4).ownBlock = some b) (fun _ _ e => e.elim)).trans O6.out.2.1 (fun _ _ e => e)
      have hrw6 := hrw.kept k06 hne6
      have ks := Kept.one_set w6 ⟨xb, 1, none⟩ (.slice a3 (i + 1) c3)
      have k0s : Kept (fun b => b = xb ∨ bd1 ≤ b) wr _ := (k06.mono (S' := fun b => b = xb ∨ bd1 ≤ b) (fun b _ e => .inr (hz b e))).trans ks (fun _ _ e => .inl e)
      refine ⟨⟨i + 1, a3, c3, hlt, rfl, hrw6.setCell _ _, cell_set_same hrw6 (by omega) _, (show (w6.setCell ⟨xb, 1, none⟩ (.slice a3 (i + 1) c3)).cell? ⟨xb, 0, none⟩ = some (.slice a0 A c0) from (World.cell?_setCell_other _ _ _ _ (by simp)).trans ((k06.cell (p := ⟨xb, 0, none⟩) hrw.lt hne6).trans h0)), (show (w6.setCell ⟨xb, 1, none⟩ (.slice a3 (i + 1) c3)).cell? ⟨xb, 2, none⟩ = some (.slice none 0 0) from (World.cell?_setCell_other _ _ _ _ (by simp)).trans ((k06.cell (p := ⟨xb, 2, none⟩) hrw.lt hne6).trans h2)), hown6.kept ks (fun b _ hb e => by have e : b = xb := e; have hb : bd1 ≤ b := hb; have := HXB1.out; omega), hk.trans k0s (fun _ _ e => e)⟩, by simp only [intOf]; omega⟩
    · obtain rfl : B = i := by omega
      clear hlt hi
      have hfm := own_cap hown
      have F1 := Lib.hid (And.intro (show B ≤ c4 from by have := hfm.1; rw [hlen] at this; exact this) (And.intro (hfm.2.mono (Z' := fun b => bd1 ≤ b ∧ b < wr.heap.size) (fun b hb hz => ⟨hz, hb⟩)) hk))
      clear hfm hown hk hlen
      obtain ⟨a1, rfl⟩ : ∃ a, a = a4 := ⟨_, rfl⟩
      obtain ⟨c1, rfl⟩ : ∃ c, c = c4 := ⟨_, rfl⟩
      have S2 := Lib.hid (show RowAt wr xb 3 ∧ wr.cell? ⟨xb, 0, none⟩ = some (.slice a0 A c0) ∧ wr.cell? ⟨xb, 1, none⟩ = some (.slice a1 B c1) ∧ wr.cell? ⟨xb, 2, none⟩ = some (.slice none 0 0) from ⟨hrw, h0, hck, h2⟩)
      clear R hck h0 h2 hrw
      obtain ⟨wS2, hw2⟩ : ∃ w', wr = w' := ⟨_, rfl⟩
      rw [hw2] at S2 F1 ⊢
      clear hw2
      obtain ⟨bd2, hbd⟩ : ∃ bd', wS2.heap.size = bd' := ⟨_, rfl⟩
      have HXB2 := Lib.hid (show xb < bd2 from by rw [← hbd]; exact S2.out.1.lt)
      have HBD2 := Lib.hid (show bd2 ≤ wS2.heap.size from Nat.le_of_eq hbd.symm)
      have HBE2 := Lib.hid hbd
      clear hbd
      go_wp2_with fail
      go_loopw [11] (fun s11 wr => ∃ (i : Nat) (a4 : Option Addr) (c4 : Nat), i ≤ C ∧ s11 = .int .i64 (i : Int) ∧ RowAt wr xb 3 ∧ wr.cell? ⟨xb, 2, none⟩ = some (.slice a4 i c4) ∧ wr.cell? ⟨xb, 0, none⟩ = some (.slice a0 A c0) ∧ wr.cell? ⟨xb, 1, none⟩ = some (.slice a1 B c1) ∧ OwnT tLink 103 wr (fun b => bd2 ≤ b) (.slice a4 i c4) ((List.range i).map mLink) ∧ Kept (fun b => b = xb ∨ bd2 ≤ b) wS2 wr) (fun s11 _ => C - (intOf s11).toNat)
      case atStart => exact ⟨0, none, 0, Nat.zero_le _, rfl, S2.out.1, S2.out.2.2.2, S2.out.2.1, S2.out.2.2.1, OwnT.nil, Kept.refl _ _⟩
      case' round =>
        obtain ⟨i, a4, c4, hi, rfl, hrw, hck, h0, h1, hown, hk⟩ := hrel
        have hlen : ((List.range i).map mLink).length = i := by simp
        have R := Lib.hid (And.intro hown (And.intro hk (And.intro hlen hrw)))
      by_cases hlt : i < C
      · have hin : (i : Int) < (C : Int) := by omega
        obtain ⟨css, ho, hcl, hat, hz⟩ := hown
        have hx1 : tLink.at_ wr (fun b => bd2 ≤ b ∧ (Value.slice a4 i c4).ownBlock ≠ some b) ((mLink i)) [.string ⟨#[108]⟩, .string ⟨#[112]⟩, .int .i64 (i : Int)] := rfl
        rw [hlen] at ho hcl
        have kq := Kept.one_alloc wr (.cells #[.string ⟨#[108]⟩, .string ⟨#[112]⟩, .int .i64 (i : Int)] 103)
        have HROW := Lib.hid (ownsRow_kept ho kq (fun _ _ e => e))
        have X := Lib.hid (And.intro hcl (And.intro hat (And.intro hz hx1)))
        have HLL := Lib.hid (show i + 1 ≤ 100 from by omega)
        clear ho hcl hat hz hx1 kq hk hlen hrw
        go_wp2_with (at_builtin; refine wpList_append_mine rfl _ _ linkE rfl rfl HROW.out (some ⟨wr.heap.size, 0, none⟩) 1 1 [.string ⟨#[108]⟩, .string ⟨#[112]⟩, .int .i64 (i : Int)] rfl rfl (holds_block (heap_alloc_new wr _)) (by simp [Value.oneCell']) (Nat.le_trans HLL.out (by decide)) (Nat.le_trans (Nat.mul_le_mul_right 40 HLL.out) (by decide)) ?_; intro a3 c3 w6 own6 k6 b6; have hne6 : ¬ (Value.slice a4 i c4).ownBlock = some xb := (fun e => by have := X.out.2.2.1 xb e; have := HXB2.out; omega); have hc6 : w6.cell? ⟨xb, 2, none⟩ = some (.slice a4 i c4) := ((k6.cell (p := ⟨xb, 2, none⟩) (Nat.lt_of_lt_of_le R.out.2.2.2.lt (Kept.one_alloc wr _).size) hne6).trans ((Kept.one_alloc wr _).cell (p := ⟨xb, 2, none⟩) R.out.2.2.2.lt (fun e => e))).trans hck; have hf6 : w6.frozen? ⟨xb, 2, none⟩ = false := ((R.out.2.2.2.kept (Kept.one_alloc wr _) (fun e => e)).kept k6 hne6).frozen 2; have HNE6 := Lib.hid hne6; have O6 := Lib.hid (And.intro own6 (And.intro k6 b6)); clear own6 k6 b6 hne6)
        obtain ⟨hcl, hat, hz, hx1⟩ := X.out
        obtain ⟨hown, hk, hlen, hrw⟩ := R.out
        have hne6 := HNE6.out
        have kq := Kept.one_alloc wr (.cells #[.string ⟨#[108]⟩, .string ⟨#[112]⟩, .int .i64 (i : Int)] 103)
        have hsn := OwnT.snoc (T := tLink) (l := (List.range i).map mLink) (x := (mLink i)) (css := css) (Z := fun b => bd2 ≤ b) (by rw [hlen]; exact HROW.out) (by rw [hlen]; exact hcl) (fun i x cs h1 h2 => tLink.kept (hat i x cs h1 h2) kq (fun _ _ _ e => e)) hz (tLink.kept hx1 kq (fun _ _ _ e => e)) (by rw [hlen]; exact O6.out.1) O6.out.2.1 O6.out.2.2
        have hbd : bd2 ≤ wr.heap.size := Nat.le_trans HBD2.out hk.size
        have hown6 : OwnT tLink 103 w6 (fun b => bd2 ≤ b) (.slice a3 (i + 1) c3) ((List.range (i + 1)).map mLink) := by
          rw [show (List.range (i + 1)).map mLink = (List.range i).map mLink ++ [(mLink i)] from by rw [List.range_succ, List.map_append]; rfl]
          exact hsn.mono (fun b _ hb => hb.elim id (fun e => by have := kq.size; show bd2 ≤ b; omega))
        have k06 : Kept (fun b => (Value.slice a4 i c4).ownBlock = some b) wr w6 := (kq.mono (S' := fun b => (Value.slice a4 i c4).ownBlock = some b) (fun _ _ e => e.elim)).trans O6.out.2.1 (fun _ _ e => e)
        have hrw6 := hrw.kept k06 hne6
        have ks := Kept.one_set w6 ⟨xb, 2, none⟩ (.slice a3 (i + 1) c3)
        have k0s : Kept (fun b => b = xb ∨ bd2 ≤ b) wr _ := (k06.mono (S' := fun b => b = xb ∨ bd2 ≤ b) (fun b _ e => .inr (hz b e))).trans ks (fun _ _ e => .inl e)
        refine ⟨⟨i + 1, a3, c3, hlt, rfl, hrw6.setCell _ _, cell_set_same hrw6 (by omega) _, (show (w6.setCell ⟨xb, 2, none⟩ (.slice a3 (i + 1) c3)).cell? ⟨xb, 0, none⟩ = some (.slice a0 A c0) from (World.cell?_setCell_other _ _ _ _ (by simp)).trans ((k06.cell (p := ⟨xb, 0, none⟩) hrw.lt hne6).trans h0)), (show (w6.setCell ⟨xb, 2, none⟩ (.slice a3 (i + 1) c3)).cell? ⟨xb, 1, none⟩ = some (.slice a1 B c1) from (World.cell?_setCell_other _ _ _ _ (by simp)).trans ((k06.cell (p := ⟨xb, 1, none⟩) hrw.lt hne6).trans h1)), hown6.kept ks (fun b _ hb e => by have e : b = xb := e; have hb : bd2 ≤ b := hb; have := HXB2.out; omega), hk.trans k0s (fun _ _ e => e)⟩, by simp only [intOf]; omega⟩
      · obtain rfl : C = i := by omega
        clear hlt hi
        have hfm := own_cap hown
        have F2 := Lib.hid (And.intro (show C ≤ c4 from by have := hfm.1; rw [hlen] at this; exact this) (And.intro (hfm.2.mono (Z' := fun b => bd2 ≤ b ∧ b < wr.heap.size) (fun b hb hz => ⟨hz, hb⟩)) hk))
        clear hfm hown hk hlen
        obtain ⟨a2, rfl⟩ : ∃ a, a = a4 := ⟨_, rfl⟩
        obtain ⟨c2, rfl⟩ : ∃ c, c = c4 := ⟨_, rfl⟩
        have S3 := Lib.hid (show RowAt wr xb 3 ∧ wr.cell? ⟨xb, 0, none⟩ = some (.slice a0 A c0) ∧ wr.cell? ⟨xb, 1, none⟩ = some (.slice a1 B c1) ∧ wr.cell? ⟨xb, 2, none⟩ = some (.slice a2 C c2) from ⟨hrw, h0, h1, hck⟩)
        clear R hck h0 h1 hrw
        obtain ⟨wS3, hw3⟩ : ∃ w', wr = w' := ⟨_, rfl⟩
        rw [hw3] at S3 F2 ⊢
        clear hw3
        obtain ⟨bd3, hbd⟩ : ∃ bd', wS3.heap.size = bd' := ⟨_, rfl⟩
        have HXB3 := Lib.hid (show xb < bd3 from by rw [← hbd]; exact S3.out.1.lt)
        have HBD3 := Lib.hid (show bd3 ≤ wS3.heap.size from Nat.le_of_eq hbd.symm)
        have HBE3 := Lib.hid hbd
        clear hbd
        have IM := Lib.hid (show ImgAt wS3 (fun b => bd0 ≤ b) (.agg #[.slice a0 A c0, .slice a1 B c1, .slice a2 C c2]) (mImg A B C) from by
          obtain ⟨hc0, hz0, -⟩ := F0.out
          obtain ⟨hc1, hz1, k1⟩ := F1.out
          obtain ⟨hc2, hz2, k2⟩ := F2.out
          have e1 := HBE1.out
          have e2 := HBE2.out
          have l01 : bd0 ≤ bd1 := by have := F0.out.2.2.size; have := HBD0.out; omega
          have l12 : bd1 ≤ bd2 := by have := k1.size; omega
          have hx := HXB0.out
          have r0 := (hz0.kept k1 (fun b _ hb e => by have := hb.1; have := hb.2; rcases e with e | e <;> omega)).kept k2 (fun b _ hb e => by have := hb.1; have := hb.2; rcases e with e | e <;> omega)
          have r1 := hz1.kept k2 (fun b _ hb e => by have := hb.1; have := hb.2; rcases e with e | e <;> omega)
          exact ⟨a0, c0, a1, c1, a2, c2, by simp [mImg], by simpa [mImg] using hc0, by simpa [mImg] using hc1, by simpa [mImg] using hc2, r0.mono (fun b _ hb => hb.1), r1.mono (fun b _ hb => by have := hb.1; show bd0 ≤ b; omega), hz2.mono (fun b _ hb => by have := hb.1; show bd0 ≤ b; omega)⟩)
        have KA := Lib.hid (show Kept (fun _ => False) W wS3 from by
          have e0 := HX1.out
          have := KS.out.size
          have := HXB0.out
          have := HBD0.out
          have e1 := HBE1.out
          have e2 := HBE2.out
          have k0 := F0.out.2.2
          have k1 := F1.out.2.2
          have := k0.size
          have := k1.size
          exact K1.out.trans (((KS.out.trans k0 (fun b hb e => by rcases e with e | e <;> omega)).trans k1 (fun b hb e => by rcases e with e | e <;> omega)).trans F2.out.2.2 (fun b hb e => by rcases e with e | e <;> omega)) (fun _ _ e => e))
        go_upto_region 19 with fail
        obtain ⟨M, hM⟩ : ∃ M : Int, (if (if A < B then (B : Int) else (A : Int)) < (C : Int) then (C : Int) else if A < B then (B : Int) else (A : Int)) = M := ⟨_, rfl⟩
        rw [hM]
        obtain ⟨r, hr⟩ : ∃ r, decide (M ≤ 64) = r := ⟨_, rfl⟩
        rw [hr]
        have hrr : rightGI (mImg A B C) = r := by
          rw [many_right hA hB hC, ← hr, ← hM, Bool.eq_iff_iff]
          simp only [Bool.and_eq_true, decide_eq_true_eq]
          by_cases h1 : A < B
          · rw [if_pos h1]
            by_cases h2 : (B : Int) < C
            · rw [if_pos h2]; omega
            · rw [if_neg h2]; omega
          · rw [if_neg h1]
            by_cases h2 : (A : Int) < C
            · rw [if_pos h2]; omega
            · rw [if_neg h2]; omega
        have HRR := Lib.hid hrr
        have x0 := S3.out.2.1
        have x1 := S3.out.2.2.1
        have x2 := S3.out.2.2.2
        clear hr hrr hM
        go_wp2_with fail
        refine (encode_any IM.out (many_small A B C hA hB hC) (many_d5 A B C)).mono ?_
        rintro e w5 ⟨k5, hor⟩
        have IM5 := Lib.hid (IM.out.keep k5)
        have hl := S3.out.1.lt
        have X5 := Lib.hid (show ∀ W', Kept (fun _ => False) w5 W' → W'.cell? ⟨xb, 0, none⟩ = some (.slice a0 A c0) ∧ W'.cell? ⟨xb, 1, none⟩ = some (.slice a1 B c1) ∧ W'.cell? ⟨xb, 2, none⟩ = some (.slice a2 C c2) from fun W' k => ⟨((k5.trans k (fun _ _ e => e)).cell (p := ⟨xb, 0, none⟩) hl (fun e => e)).trans S3.out.2.1, ((k5.trans k (fun _ _ e => e)).cell (p := ⟨xb, 1, none⟩) hl (fun e => e)).trans S3.out.2.2.1, ((k5.trans k (fun _ _ e => e)).cell (p := ⟨xb, 2, none⟩) hl (fun e => e)).trans S3.out.2.2.2⟩)
        have y0 := (X5.out w5 (Kept.refl _ _)).1
        have y1 := (X5.out w5 (Kept.refl _ _)).2.1
        have y2 := (X5.out w5 (Kept.refl _ _)).2.2
        have K5 := Lib.hid (KA.out.trans k5 (fun _ _ e => e))
        clear k5 hl x0 x1 x2
        cases r
        · rcases hor with ⟨hrt, -⟩ | ⟨-, rfl⟩
          · rw [HRR.out] at hrt
            cases hrt
          go_wp2_with fail
          refine (imgright_any IM5.out (many_small A B C hA hB hC)).mono ?_
          rintro e w6 ⟨rfl, k6⟩
          rw [HRR.out]
          have K6 := Lib.hid (K5.out.trans k6 (fun _ _ e => e))
          clear k6 y0 y1 y2
          go_wp2_with fail
          go_ret
          exact ⟨rfl, K6.out⟩
        · rcases hor with ⟨-, sv, rfl, hown, -⟩ | ⟨hrt, -⟩
          case' inr =>
            rw [HRR.out] at hrt
            cases hrt
          obtain ⟨ea, ec, rfl, hec, hby, -⟩ := own_u8 hown
          have HB := Lib.hid (And.intro hec (And.intro hby (enc_len HRR.out (many_d5 A B C))))
          obtain ⟨n, hn⟩ : ∃ n, (encI (mImg A B C)).length = n := ⟨_, rfl⟩
          rw [hn]
          have HN := Lib.hid hn
          clear hown hec hby hn
          go_wp2_with fail
          refine (imgright_any IM5.out (many_small A B C hA hB hC)).mono ?_
          rintro e w6 ⟨rfl, k6⟩
          rw [HRR.out]
          have K6 := Lib.hid (And.intro (K5.out.trans k6 (fun _ _ e => e)) k6)
          clear k6 y0 y1 y2
          go_wp2_with fail
          rw [← HN.out]
          refine (decode_row (HB.out.2.1.kept K6.out.2 (fun _ _ _ e => e)) HB.out.1 (Nat.le_trans HB.out.2.2 (by decide))).mono ?_
          rintro e w7 ⟨k7, ⟨y, v, hd, rfl, hy⟩ | ⟨hd, -⟩⟩
          case' inr =>
            rw [dec_enc HRR.out] at hd
            cases hd
          rw [dec_enc HRR.out] at hd
          obtain rfl := Option.some.inj hd
          obtain ⟨pa, pc, da, dc, la, lc, rfl, -, -, -, -, hyd, hyl⟩ := hy
          rw [show (mImg A B C).P.length = A from by simp [mImg], show (mImg A B C).D.length = B from by simp [mImg], show (mImg A B C).L.length = C from by simp [mImg]]
          have K7 := Lib.hid (K6.out.1.trans k7 (fun _ _ e => e))
          have YD := Lib.hid hyd
          have YL := Lib.hid hyl
          clear hd k7 hyd hyl
          obtain ⟨yb, hyb⟩ : ∃ yb, w7.heap.size = yb := ⟨_, rfl⟩
          obtain ⟨w8, hw8⟩ : ∃ w8, w7.alloc (.cells #[.slice pa A pc, .slice da B dc, .slice la C lc] 75) = w8 := ⟨_, rfl⟩
          have k8 : Kept (fun _ => False) w7 w8 := by rw [← hw8]; exact Kept.one_alloc _ _
          have hyc := fun i => World.cell?_alloc_new w7 #[.slice pa A pc, .slice da B dc, .slice la C lc] 75 i
          rw [hw8, hyb] at hyc
          have z0 := hyc 0
          have z1 := hyc 1
          have z2 := hyc 2
          simp at z0 z1 z2
          have YD8 := Lib.hid (YD.out.keep k8)
          have YL8 := Lib.hid (YL.out.keep k8)
          have K8 := Lib.hid (K7.out.trans k8 (fun _ _ e => e))
          have HW8 := Lib.hid hw8
          clear k8 hyc hw8
          go_upto_region 25 with fail
          rw [HW8.out]
          clear hyb
          by_cases hC0 : C = 0
          · subst hC0
            by_cases hB0 : B = 0
            · subst hB0
              go_wp2_with fail
              go_ret
              first | exact ⟨rfl, K8.out⟩ | exact ⟨congrArg (fun b => Ending.returned (Value.bool b)) (many_mx B'), K8.out⟩
            · obtain ⟨B', rfl⟩ : ∃ B', B = B' + 1 := ⟨B - 1, by omega⟩
              obtain ⟨db, dofs, ga, gc, rfl, -, -, -, -, -, -, -, -, hmx, -⟩ := YD8.out.dump (i := B') (x := mDump B') (many_at (by omega))
              have hmx : w8.cell? ⟨db, dofs + B' * 6 + 4, none⟩ = some (.int .i64 ((B' + 1 : Nat) : Int)) := hmx.trans (by rw [show (mDump B').m.mx = ((B' + 1 : Nat) : Int) from by show (1 : Int) + (B' : Int) = _; omega])
              have hb1 : wrap64 (((B' + 1 : Nat) : Int) - 1) = (B' : Int) := by unfold wrap64; omega
              have hbl : (B' : Int) < ((B' + 1 : Nat) : Int) := by omega
              go_wp2_with fail
              go_ret
              first | exact ⟨rfl, K8.out⟩ | exact ⟨congrArg (fun b => Ending.returned (Value.bool b)) (many_mx B'), K8.out⟩
          · obtain ⟨C', rfl⟩ : ∃ C', C = C' + 1 := ⟨C - 1, by omega⟩
            obtain ⟨lb, lo, rfl, -, -, -, -, hver⟩ := YL8.out.link (i := C') (x := mLink C') (many_at (by omega))
            have hver : w8.cell? ⟨lb, lo + C' * 3 + 2, none⟩ = some (.int .i64 (C' : Int)) := hver
            have hc1' : wrap64 (((C' + 1 : Nat) : Int) - 1) = (C' : Int) := by unfold wrap64; omega
            have hcl : (C' : Int) < ((C' + 1 : Nat) : Int) := by omega
            by_cases hB0 : B = 0
            · subst hB0
              go_wp2_with fail
              go_ret
              first | exact ⟨rfl, K8.out⟩ | exact ⟨congrArg (fun b => Ending.returned (Value.bool b)) (many_mx B'), K8.out⟩
            · obtain ⟨B', rfl⟩ : ∃ B', B = B' + 1 := ⟨B - 1, by omega⟩
              obtain ⟨db, dofs, ga, gc, rfl, -, -, -, -, -, -, -, -, hmx, -⟩ := YD8.out.dump (i := B') (x := mDump B') (many_at (by omega))
              have hmx : w8.cell? ⟨db, dofs + B' * 6 + 4, none⟩ = some (.int .i64 ((B' + 1 : Nat) : Int)) := hmx.trans (by rw [show (mDump B').m.mx = ((B' + 1 : Nat) : Int) from by show (1 : Int) + (B' : Int) = _; omega])
              have hb1 : wrap64 (((B' + 1 : Nat) : Int) - 1) = (B' : Int) := by unfold wrap64; omega
              have hbl : (B' : Int) < ((B' + 1 : Nat) : Int) := by omega
              go_wp2_with fail
              go_ret
              first | exact ⟨rfl, K8.out⟩ | exact ⟨congrArg (fun b => Ending.returned (Value.bool b)) (many_mx B'), K8.out⟩
end Go.Proofs.YtdkcnigghcbnpaaGreat
