/- law18.ImageNames answers true. -/
import Derived.Test.YtdkcnigghcbnpaaGreatImgE
namespace Go.Proofs.YtdkcnigghcbnpaaGreat
set_option linter.unusedVariables false
set_option linter.unusedSimpArgs false
open Go.RowKit Go.MapKept

theorem one_P (p : GP) : rightGI ⟨[p], [], []⟩ = rightGP p := by simp [rightGI]
theorem one_D (d : GD) : rightGI ⟨[], [d], []⟩ = rightGD d := by simp [rightGI]
theorem one_L (l : GL) : rightGI ⟨[], [], [l]⟩ = rightGL l := by simp [rightGI]
theorem nameB_p : nameB ⟨#[112]⟩ = true := by decide
theorem nameB_l : nameB ⟨#[108]⟩ = true := by decide
theorem nm_P (s : ByteArray) : rightGP ⟨s, ByteArray.empty, [], 0, 0⟩ = nameB s := by
  unfold rightGP
  simp [inB]
theorem nm_L1 (s : ByteArray) : rightGL ⟨s, ⟨#[112]⟩, 0⟩ = nameB s := by
  unfold rightGL
  rw [nameB_p]
  simp [inB]
theorem nm_L2 (s : ByteArray) : rightGL ⟨⟨#[108]⟩, s, 0⟩ = nameB s := by
  unfold rightGL
  rw [nameB_l]
  simp [inB]
theorem nm_P2 (s : ByteArray) : rightGP ⟨⟨#[112]⟩, ByteArray.empty, [s], 0, 0⟩ = nameB s := by
  unfold rightGP
  rw [nameB_p]
  simp [inB]
theorem small_right18 (s : ByteArray) (kd mx : Int) (hk : kd = 2 ∨ kd = 3) (hm : 1 ≤ mx ∧ mx ≤ 1024) : (TM.right ⟨s, kd, 1, 1, mx⟩) = nameB s := by
  unfold TM.right rightB withinB
  rcases hk with rfl | rfl <;> simp [hm.1, hm.2]
theorem nm_D (s : ByteArray) (kd mx : Int) (hk : kd = 2 ∨ kd = 3) (hm : 1 ≤ mx ∧ mx ≤ 1024) : rightGD ⟨⟨s, kd, 1, 1, mx⟩, ByteArray.empty⟩ = nameB s := by
  have hr := small_right18 s kd mx hk hm
  have hn : newP ⟨s, kd, 1, 1, mx⟩ = [] := by
    unfold newP
    rw [if_neg (by show ¬ kd = 1; omega)]
  have he : entsB 1 1 ByteArray.empty = [] := rfl
  have ho : snapB (ordP ⟨s, kd, 1, 1, mx⟩ []) = ByteArray.empty := by
    rcases hk with rfl | rfl <;> rfl
  unfold rightGD resP
  simp only
  cases hb : nameB s with
  | true =>
    rw [hb] at hr
    rw [if_pos ⟨hr, by decide, Nat.zero_le _⟩]
    have e : runP ⟨s, kd, 1, 1, mx⟩ (newP ⟨s, kd, 1, 1, mx⟩) (entsB (Int.toNat 1) (Int.toNat 1) ByteArray.empty) = some [] := by rw [hn]; rfl
    rw [e]
    simp only
    rw [if_pos ho]
    rfl
  | false =>
    rw [hb] at hr
    rw [if_neg (fun h => by rw [hr] at h; exact absurd h.1 (by decide))]
    rfl
theorem one_small_P (p : GP) (h : p.maps.length ≤ 9223372036854775807) : (⟨[p], [], []⟩ : GI).small := ⟨by simp, Nat.zero_le _, Nat.zero_le _, (fun q hq => by
  rcases List.mem_cons.1 hq with rfl | hq
  · exact h
  · cases hq), (fun d hd => nomatch hd)⟩
theorem one_small_D (d : GD) (h : d.data.size ≤ 1000000) : (⟨[], [d], []⟩ : GI).small := ⟨Nat.zero_le _, by simp, Nat.zero_le _, (fun q hq => nomatch hq), fun q hq => by
  rcases List.mem_cons.1 hq with rfl | hq
  · exact h
  · cases hq⟩
theorem one_small_L (l : GL) : (⟨[], [], [l]⟩ : GI).small := ⟨Nat.zero_le _, Nat.zero_le _, by simp, (fun q hq => nomatch hq), (fun q hq => nomatch hq)⟩
theorem bytz_none {w : World} {Z : Nat → Prop} : BytZ w Z none ByteArray.empty := ⟨⟨rfl, fun h => absurd h (Nat.lt_irrefl 0), fun i hi => absurd hi (Nat.not_lt_zero i)⟩, fun b o h => absurd h (Nat.lt_irrefl 0)⟩
/-- An image of one thing, just laid. -/
theorem at_P {w : World} {p : GP} {cs : List Value} {ty : TypeId} (h : PAt (w.alloc (.cells cs.toArray ty)) (fun _ => True) p cs) : ImgAt (w.alloc (.cells cs.toArray ty)) (fun _ => True) (.agg #[.slice (some ⟨w.heap.size, 0, none⟩) 1 1, .slice none 0 0, .slice none 0 0]) ⟨[p], [], []⟩ :=
  ⟨_, 1, none, 0, none, 0, rfl, Nat.le_refl _, Nat.le_refl _, Nat.le_refl _, row_one (T := tProg) h trivial, RowZ.nil, RowZ.nil⟩
theorem at_D {w : World} {p : GD} {cs : List Value} {ty : TypeId} (h : DAt (w.alloc (.cells cs.toArray ty)) (fun _ => True) p cs) : ImgAt (w.alloc (.cells cs.toArray ty)) (fun _ => True) (.agg #[.slice none 0 0, .slice (some ⟨w.heap.size, 0, none⟩) 1 1, .slice none 0 0]) ⟨[], [p], []⟩ :=
  ⟨none, 0, _, 1, none, 0, rfl, Nat.le_refl _, Nat.le_refl _, Nat.le_refl _, RowZ.nil, row_one (T := tDump) h trivial, RowZ.nil⟩
theorem at_L {w : World} {p : GL} {cs : List Value} {ty : TypeId} (h : cs = [.string p.nm, .string p.pg, .int .i64 p.ver]) : ImgAt (w.alloc (.cells cs.toArray ty)) (fun _ => True) (.agg #[.slice none 0 0, .slice none 0 0, .slice (some ⟨w.heap.size, 0, none⟩) 1 1]) ⟨[], [], [p]⟩ :=
  ⟨none, 0, none, 0, _, 1, rfl, Nat.le_refl _, Nat.le_refl _, Nat.le_refl _, RowZ.nil, RowZ.nil, row_one (T := tLink) h trivial⟩
set_option maxRecDepth 100000 in
set_option maxHeartbeats 4000000 in
theorem imageNames_any (s : ByteArray) (W : World) (hs : s.size ≤ 9223372036854775807) : Calls Tryz.prog 12 #[.string s] W fun e w' => e = .returned (.bool true) ∧ Kept (fun _ => False) W w' := by
  go_enter Tryz.func12, Tryz.ntmps12
  go_wp2_with fail
  refine (shown18_any W).mono ?_
  rintro e w1 ⟨rfl, k1⟩
  have K1 := Lib.hid k1
  clear k1
  go_wp2_with fail
  refine (right_any s 3 1 1 1 _).mono ?_
  rintro e w2 ⟨rfl, k2⟩
  rw [show rightB s 3 1 1 1 = nameB s from small_right18 s 3 1 (.inr rfl) ⟨by decide, by decide⟩]
  obtain ⟨mb, hmb⟩ : ∃ mb, w1.heap.size = mb := ⟨_, rfl⟩
  have kq := Kept.one_alloc w1 (.cells #[.string s, .int .i64 3, .int .i64 1, .int .i64 1, .int .i64 1] 35)
  have hcel := fun i => World.cell?_alloc_new w1 #[.string s, .int .i64 3, .int .i64 1, .int .i64 1, .int .i64 1] 35 i
  have hmbl : mb < (w1.alloc (.cells #[.string s, .int .i64 3, .int .i64 1, .int .i64 1, .int .i64 1] 35)).heap.size := by rw [← hmb]; simp
  have hM := Lib.hid (show ∀ W', Kept (fun _ => False) w2 W' → ∀ i, W'.cell? ⟨mb, i, none⟩ = (#[.string s, .int .i64 3, .int .i64 1, .int .i64 1, .int .i64 1] : Array Value)[i]? from fun W' k i => ((k2.trans k (fun _ _ e => e)).cell (p := ⟨mb, i, none⟩) hmbl (fun e => e)).trans (by rw [← hmb]; exact hcel i))
  have K2 := Lib.hid (K1.out.trans (kq.trans k2 (fun _ _ e => e)) (fun _ _ e => e))
  rw [hmb]
  clear k2 kq hcel hmbl hmb
  go_wp2_with fail
  refine (imgright_any (at_P (p := ⟨s, ByteArray.empty, [], 0, 0⟩) (cs := [.string s, .slice none 0 0, .slice none 0 0, .int .i64 0, .int .i64 0]) ⟨none, 0, none, 0, rfl, Nat.le_refl _, Nat.le_refl _, bytz_none, RowZ.nil⟩) (one_small_P _ (Nat.zero_le _))).mono ?_
  rintro e w3 ⟨rfl, kn⟩
  rw [one_P, nm_P]
  have kq := (Kept.one_alloc w2 (.cells #[.string s, .slice none 0 0, .slice none 0 0, .int .i64 0, .int .i64 0] 99)).trans kn (fun _ _ e => e)
  have K3 := Lib.hid kq
  have m0 := hM.out w3 kq 0
  have m1 := hM.out w3 kq 1
  have m2 := hM.out w3 kq 2
  have m3 := hM.out w3 kq 3
  have m4 := hM.out w3 kq 4
  simp at m0 m1 m2 m3 m4
  clear kn kq
  go_wp2_with fail
  refine (imgright_any (at_D (p := ⟨⟨s, 3, 1, 1, 1⟩, ByteArray.empty⟩) (cs := [.string s, .int .i64 3, .int .i64 1, .int .i64 1, .int .i64 1, .slice none 0 0]) ⟨none, 0, rfl, Nat.le_refl _, bytz_none⟩) (one_small_D _ (Nat.zero_le _))).mono ?_
  rintro e w4 ⟨rfl, kn⟩
  rw [one_D, nm_D s 3 1 (.inr rfl) ⟨by decide, by decide⟩]
  have K4 := Lib.hid (K3.out.trans ((Kept.one_alloc w3 (.cells #[.string s, .int .i64 3, .int .i64 1, .int .i64 1, .int .i64 1, .slice none 0 0] 101)).trans kn (fun _ _ e => e)) (fun _ _ e => e))
  clear kn m0 m1 m2 m3 m4
  go_wp2_with fail
  refine (imgright_any (at_L (p := ⟨s, ⟨#[112]⟩, 0⟩) (cs := [.string s, .string ⟨#[112]⟩, .int .i64 0]) rfl) (one_small_L _)).mono ?_
  rintro e w5 ⟨rfl, kn⟩
  rw [one_L, nm_L1]
  have K5 := Lib.hid (K4.out.trans ((Kept.one_alloc w4 (.cells #[.string s, .string ⟨#[112]⟩, .int .i64 0] 103)).trans kn (fun _ _ e => e)) (fun _ _ e => e))
  clear kn
  go_wp2_with fail
  refine (imgright_any (at_L (p := ⟨⟨#[108]⟩, s, 0⟩) (cs := [.string ⟨#[108]⟩, .string s, .int .i64 0]) rfl) (one_small_L _)).mono ?_
  rintro e w6 ⟨rfl, kn⟩
  rw [one_L, nm_L2]
  have K6 := Lib.hid (K5.out.trans ((Kept.one_alloc w5 (.cells #[.string ⟨#[108]⟩, .string s, .int .i64 0] 103)).trans kn (fun _ _ e => e)) (fun _ _ e => e))
  clear kn
  obtain ⟨qb, hqb⟩ : ∃ qb, w6.heap.size = qb := ⟨_, rfl⟩
  have hs6 : (w6.alloc (.cells #[.string s] 9)).heap.size = qb + 1 := by rw [← hqb]; simp
  have hrow := row_one (T := tStr) (w := w6) (Z := fun _ => True) (x := s) (cs := [.string s]) (ty := 9) rfl trivial
  have hat := at_P (w := w6.alloc (.cells #[.string s] 9)) (p := ⟨⟨#[112]⟩, ByteArray.empty, [s], 0, 0⟩) (cs := [.string ⟨#[112]⟩, .slice none 0 0, .slice (some ⟨qb, 0, none⟩) 1 1, .int .i64 0, .int .i64 0]) (ty := 99) ⟨none, 0, some ⟨qb, 0, none⟩, 1, rfl, Nat.le_refl _, Nat.le_refl _, bytz_none, by rw [← hqb]; exact hrow.keep (Kept.one_alloc _ _)⟩
  rw [hs6] at hat
  have HAT := Lib.hid hat
  have K7 := Lib.hid (K6.out.trans ((Kept.one_alloc w6 (.cells #[.string s] 9)).trans (Kept.one_alloc _ (.cells #[.string ⟨#[112]⟩, .slice none 0 0, .slice (some ⟨qb, 0, none⟩) 1 1, .int .i64 0, .int .i64 0] 99)) (fun _ _ e => e)) (fun _ _ e => e))
  clear hs6 hrow hat
  go_wp2_with fail
  refine (imgright_any HAT.out (one_small_P _ (by simp))).mono ?_
  rintro e w8 ⟨rfl, kn⟩
  rw [one_P, nm_P2]
  have K8 := Lib.hid (K2.out.trans (K7.out.trans kn (fun _ _ e => e)) (fun _ _ e => e))
  clear kn hqb
  generalize nameB s = t
  cases t <;>
  · go_wp2_with fail
    go_ret
    exact ⟨rfl, K8.out⟩
end Go.Proofs.YtdkcnigghcbnpaaGreat
