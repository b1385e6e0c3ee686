/- The document's table: an entry is used, looked up, let go. -/
import Derived.Test.YtalahbmahpgkeaaRefW
namespace Go.Proofs.Ytalahbmahpgkeaa
set_option linter.unusedVariables false
set_option linter.unusedSimpArgs false
open Go.RowKit Go.MapKept

section
variable {w w1 : World} {bt : Nat} {m : TM} {lv r : Value} {E E' : List En} {k : ByteArray}
/-- Another row is put in. -/
theorem RT.put (h : RT w bt m lv E) (q : Kept (fun _ => False) w w1) (hr : w1.ownsRow 0 59 1 r E'.length (ptrs E')) (hrb : ∀ b, r.ownBlock = some b → w.heap.size ≤ b)
    (hmem : ∀ x ∈ E', x ∈ E ∨ (w.heap.size ≤ x.b ∧ w.heap.size ≤ x.d ∧ EnAt w1 x ∧ (x.key.size : Int) = m.ks ∧ (x.data.size : Int) = m.vs ∧ ∀ b, r.ownBlock = some b → b ≠ x.b ∧ b ≠ x.d))
    (hkeys : (E'.map (·.key)).Nodup) (hblocks : (E'.flatMap fun x => [x.b, x.d]).Nodup) (hlen : (E'.length : Int) ≤ m.mx) (harr : m.kd = 1 → E'.map (·.key) = (List.range m.mx.toNat).map numK) (hrise : m.kd = 2 → Rises (fun x : En => x.key) E') :
    RT (w1.setCell ⟨bt, 5, none⟩ r) bt m r E' ∧ Kept (fun b => b = bt) w (w1.setCell ⟨bt, 5, none⟩ r) := by
  have h1 := h.keep q
  have ks := Kept.one_set w1 ⟨bt, 5, none⟩ r
  have hbt := h.row.lt
  have hrbt : r.ownBlock ≠ some bt := fun e => by have := hrb bt e; omega
  have hx : ∀ x ∈ E', x.b ≠ bt ∧ x.d ≠ bt := fun x hx => by
    rcases hmem x hx with h2 | ⟨h2, h3, -⟩
    · exact h.ownb x h2
    · omega
  refine ⟨⟨h.right, h1.row.setCell _ _, (cell_set_other _ (by omega)).trans h1.c0, (cell_set_other _ (by omega)).trans h1.c1, (cell_set_other _ (by omega)).trans h1.c2, (cell_set_other _ (by omega)).trans h1.c3, (cell_set_other _ (by omega)).trans h1.c4,
    cell_set_same h1.row (by omega) _, ownsRow_kept hr ks (fun b e e2 => hrbt (by have e2 : b = bt := e2; rw [← e2]; exact e)), hrbt, fun x hx' => ?_, fun x hx' => ?_, hkeys, hblocks, fun b hb x hx' => ?_, hx, hlen, harr, hrise⟩, (q.mono fun _ _ e => e.elim).trans ks (fun _ _ e => e)⟩
  · have hn := hx x hx'
    rcases hmem x hx' with h2 | ⟨-, -, h2, -⟩
    · exact (h1.en x h2).kept ks hn.1 hn.2
    · exact h2.kept ks hn.1 hn.2
  · rcases hmem x hx' with h2 | ⟨-, -, -, h2, h3, -⟩
    · exact h.size x h2
    · exact ⟨h2, h3⟩
  · rcases hmem x hx' with h2 | ⟨-, -, -, -, -, h2⟩
    · have := (h.en x h2).row.lt
      have := (h.en x h2).drow.lt
      have := hrb b hb
      omega
    · exact h2 b hb
theorem flat_perm {A B : List En} (h : A.Perm B) : (A.flatMap fun x => [x.b, x.d]).Perm (B.flatMap fun x => [x.b, x.d]) := h.flatMap_right _
/-- Entries that were there. -/
theorem RT.turn (h : RT w bt m lv E) (q : Kept (fun _ => False) w w1) (hr : w1.ownsRow 0 59 1 r E'.length (ptrs E')) (hrb : ∀ b, r.ownBlock = some b → w.heap.size ≤ b) {L : List En} (hp : E'.Perm L) (hs : L.Sublist E) (harr : m.kd ≠ 1) (hrise : m.kd = 2 → E'.Sublist E) :
    RT (w1.setCell ⟨bt, 5, none⟩ r) bt m r E' ∧ Kept (fun b => b = bt) w (w1.setCell ⟨bt, 5, none⟩ r) := by
  refine h.put q hr hrb (fun x hx => .inl (hs.subset (hp.mem_iff.1 hx))) ?_ ?_ ?_ (fun e => absurd e harr) (fun e => (h.rise e).sublist (hrise e))
  · exact ((hp.map _).nodup_iff).2 (h.keys.sublist (hs.map _))
  · exact ((flat_perm hp).nodup_iff).2 (h.blocks.sublist (flat_sub hs))
  · have h1 := hp.length_eq
    have h2 := hs.length_le
    have := h.len
    omega

set_option maxRecDepth 100000 in
set_option maxHeartbeats 1000000 in
theorem rt_use {l1 l2 : List En} {x : En} (h : RT w bt m lv (l1 ++ x :: l2)) :
    Calls Try.prog 40 #[.pointer (some ⟨bt, 0, none⟩), .int .i64 (l1.length : Nat)] w fun e w' => e = .returned (.pointer (some ⟨x.b, 0, none⟩)) ∧ ∃ lv', RT w' bt m lv' (if m.kd = 3 then l1 ++ l2 ++ [x] else l1 ++ x :: l2) ∧ Kept (fun b => b = bt) w w' ∧ (∀ b, lv'.ownBlock = some b → lv.ownBlock = some b ∨ w.heap.size ≤ b) := by
  obtain ⟨g, c, rfl, hc1, hc2⟩ := h.at (i := l1.length) (x := x) (by simp)
  have hs := h.c5
  have hk := h.c1
  have hmx := h.mx
  have hlen : l1.length < (l1 ++ x :: l2).length := by simp
  obtain ⟨N, hN⟩ : ∃ N, (l1 ++ x :: l2).length = N := ⟨_, rfl⟩
  have hN2 : l1.length + l2.length + 1 = N := by rw [← hN]; simp <;> omega
  rw [hN] at hlen hs hmx
  have H := Lib.hid h
  have HN := Lib.hid (And.intro hN hN2)
  clear h hN hN2
  by_cases h3 : m.kd = 3
  · rw [if_pos h3]
    rw [h3] at hk
    have H3 := Lib.hid h3
    clear h3
    go_enter Try.func40, Try.ntmps40
    go_wp2_with fail
    refine (rt_without H.out).mono ?_
    rintro e w1 ⟨r1, rfl, hr1, k1, f1⟩
    have hbt := H.out.row.lt
    have hcb1 := (k1.cell (p := ⟨bt, 5, none⟩) hbt (fun e => e)).trans hs
    have K1 := Lib.hid k1
    obtain ⟨n, hn⟩ : ∃ n, (l1 ++ l2).length = n := ⟨_, rfl⟩
    have hn2 : n + 1 = N := by rw [← hn, List.length_append]; exact HN.out.2
    have F1 := Lib.hid (And.intro f1 hr1)
    have HNN := Lib.hid hn
    obtain ⟨a1, c1, rfl, -, -, hnc1⟩ := own_form hr1
    rw [hn] at hr1 F1
    have hr2 := ownsRow_kept hr1 (Kept.one_alloc w1 (.cells #[.pointer (some ⟨x.b, 0, none⟩)] 59)) (fun _ _ e => e)
    rw [hn] at hnc1 ⊢
    clear f1 hr1 k1 hn hc1 hc2
    go_wp2_with (first
      | (refine wpList_append_mine rfl _ _ rentE rfl rfl hr2 (some ⟨w1.heap.size, 0, none⟩) 1 1 [.pointer (some ⟨x.b, 0, none⟩)] rfl rfl (holds_block (heap_alloc_new w1 _)) (by simp [Value.oneCell']) (by unfold maxLen; omega) (by omega) ?_
         intro a' c' w' o2 k2 b2
         have k12 : Kept (fun _ => False) w w' := (K1.out.trans (Kept.one_alloc w1 _) (fun _ _ e => e)).trans k2 (fun b hb e => by have := F1.out.1 b e; omega)
         have hrow' := (H.out.keep k12).row
         have hcb' := (k12.cell (p := ⟨bt, 5, none⟩) hbt (fun e => e)).trans hs
         have hfb' := hrow'.frozen 5
         have FIN := Lib.hid (And.intro o2 (And.intro k12 b2))
         clear o2 k2 b2 k12 hrow')
      | fail)
    go_ret
    obtain ⟨o2, k12, b2⟩ := FIN.out
    rw [hn2] at o2 b2
    have hE : (l1 ++ l2 ++ [x]).length = N := by rw [List.length_append, HNN.out]; exact hn2
    have hfr : ∀ b, (Value.slice a' N c').ownBlock = some b → w.heap.size ≤ b := fun b e => by
      rcases b2 with h | h
      · exact F1.out.1 b (h.symm.trans e)
      · have := Option.some.inj (h.symm.trans e)
        have := ((K1.out.trans (Kept.one_alloc w1 (.cells #[.pointer (some ⟨x.b, 0, none⟩)] 59)) (fun _ _ e => e))).size
        omega
    obtain ⟨hT, hK⟩ := H.out.turn (E' := l1 ++ l2 ++ [x]) k12 (by rw [hE, ptrs_append]; exact o2) hfr (L := l1 ++ x :: l2) (by rw [List.append_assoc]; exact List.Perm.append_left _ (List.perm_append_singleton x l2)) (.refl _) (by rw [H3.out]; decide) (fun e => by rw [H3.out] at e; exact absurd e (by decide))
    exact ⟨rfl, _, hT, hK, fun b e => .inr (hfr b e)⟩
  · rw [if_neg h3]
    have hk3 : ¬ (m.kd = 3) := h3
    go_enter Try.func40, Try.ntmps40
    go_wp2_with fail
    go_ret
    exact ⟨rfl, _, H.out, .refl _ _, fun b e => .inl e⟩

/-- Lookup. -/
theorem rt_look (h : RT w bt m lv E) (k : ByteArray) :
    Calls Try.prog 30 #[.pointer (some ⟨bt, 0, none⟩), .string k] w fun e w' => e = .returned (.tuple #[enV (lookT k E), .bool (lookT k E).isSome]) ∧ ∃ lv', RT w' bt m lv' (useT m k E) ∧ Kept (fun b => b = bt) w w' ∧ (∀ b, lv'.ownBlock = some b → lv.ownBlock = some b ∨ w.heap.size ≤ b) := by
  have hmx := h.mx
  rcases split_en h.keys k with ⟨e1, e2, e3⟩ | ⟨l1, x, l2, rfl, hk, e1, e2⟩
  · have hu : useT m k E = E := by unfold useT; rw [e1]; split <;> rfl
    rw [hu, e1]
    have H := Lib.hid h
    have HK := Lib.hid e2
    clear h e1 e2 e3 hu
    go_enter Try.func30, Try.ntmps30
    go_wp2_with fail
    refine (rt_find_miss H.out HK.out).mono ?_
    rintro e w' ⟨rfl, rfl⟩
    go_wp2_with fail
    go_ret2
    exact ⟨rfl, _, H.out, .refl _ _, fun b e => .inl e⟩
  · have hu : useT m k (l1 ++ x :: l2) = if m.kd = 3 then l1 ++ l2 ++ [x] else l1 ++ x :: l2 := by unfold useT; rw [e1, e2]
    have hn1 : ∀ y ∈ l1, y.key ≠ x.key := by
      have hn := h.keys
      rw [List.map_append, List.map_cons] at hn
      intro y hy e
      exact (List.nodup_append.1 hn).2.2 _ (List.mem_map_of_mem hy) x.key (by simp) e
    rw [e1]
    generalize useT m k (l1 ++ x :: l2) = E' at hu ⊢
    subst hk
    have HU := Lib.hid hu
    have hlen : l1.length < (l1 ++ x :: l2).length := by simp
    have H := Lib.hid h
    have HK := Lib.hid hn1
    have hlen1 : l1.length ≤ 1024 := by omega
    clear h e1 e2 hu hn1 hlen hmx
    go_enter Try.func30, Try.ntmps30
    go_wp2_with fail
    refine (rt_find_hit H.out HK.out).mono ?_
    rintro e w' ⟨rfl, rfl⟩
    go_wp2_with fail
    refine (rt_use H.out).mono ?_
    rintro e w' ⟨rfl, lv', h1, h2, h3⟩
    rw [← HU.out] at h1
    have FIN := Lib.hid (And.intro h1 (And.intro h2 h3))
    clear h1 h2 h3
    go_wp2_with fail
    go_ret2
    exact ⟨rfl, lv', FIN.out⟩

/-- Delete. -/
theorem rt_del (h : RT w bt m lv E) (k : ByteArray) (hks : k.size ≤ 9223372036854775807) :
    Calls Try.prog 31 #[.pointer (some ⟨bt, 0, none⟩), .string k] w fun e w' => e = .returned (.int .i64 (delC m k E)) ∧ ∃ lv', RT w' bt m lv' (delE m k E) ∧ Kept (fun b => b = bt) w w' ∧ (∀ b, lv'.ownBlock = some b → lv.ownBlock = some b ∨ w.heap.size ≤ b) := by
  have hmx := h.mx
  have c2 := h.c2
  have c1 := h.c1
  have hsz := fun x hx => (h.size x hx).1
  by_cases hk : (k.size : Int) = m.ks
  · by_cases h1 : m.kd = 1
    · have e1 : delC m k E = 6 := by unfold delC; rw [if_neg (by omega), if_pos h1]
      have e2 : delE m k E = E := by unfold delE; rw [if_pos h1]
      rw [e1, e2]
      rw [h1] at c1
      rw [← hk] at c2
      have H := Lib.hid h
      clear h e1 e2 h1 hk hsz
      go_enter Try.func31, Try.ntmps31
      go_wp2_with fail
      go_ret
      exact ⟨rfl, _, H.out, .refl _ _, fun b e => .inl e⟩
    · have e2 : delE m k E = dropT k E := by unfold delE; rw [if_neg h1]
      have hd1 : ¬ (m.kd = 1) := h1
      rcases split_en h.keys k with ⟨f1, f2, f3⟩ | ⟨l1, x, l2, rfl, hkk, f1, f2⟩
      · have e1 : delC m k E = 3 := by unfold delC; rw [if_neg (by omega), if_neg h1, f1]; rfl
        rw [e1, e2, f3]
        rw [← hk] at c2
        have H := Lib.hid h
        have HK := Lib.hid f2
        clear h e1 e2 h1 hk f1 f2 f3 hsz
        go_enter Try.func31, Try.ntmps31
        go_wp2_with fail
        refine (rt_find_miss H.out HK.out).mono ?_
        rintro e w' ⟨rfl, rfl⟩
        go_wp2_with fail
        go_ret
        exact ⟨rfl, _, H.out, .refl _ _, fun b e => .inl e⟩
      · have e1 : delC m k (l1 ++ x :: l2) = 0 := by unfold delC; rw [if_neg (by omega), if_neg h1, f1]; rfl
        rw [e1, e2, f2]
        have hn1 : ∀ y ∈ l1, y.key ≠ x.key := by
          have hn := h.keys
          rw [List.map_append, List.map_cons] at hn
          intro y hy e
          exact (List.nodup_append.1 hn).2.2 _ (List.mem_map_of_mem hy) x.key (by simp) e
        rw [← hk] at c2
        subst hkk
        have hlen : l1.length < (l1 ++ x :: l2).length := by simp
        have H := Lib.hid h
        have HK := Lib.hid hn1
        have H1 := Lib.hid h1
        have hlen1 : l1.length ≤ 1024 := by omega
        clear h e1 e2 hk f1 f2 hsz hn1 hlen h1 hmx
        go_enter Try.func31, Try.ntmps31
        go_wp2_with fail
        refine (rt_find_hit H.out HK.out).mono ?_
        rintro e w' ⟨rfl, rfl⟩
        go_wp2_with fail
        refine (rt_without H.out).mono ?_
        rintro e w1 ⟨r1, rfl, hr1, k1, f1⟩
        have hrow := (H.out.keep k1).row
        have hcb1 := (H.out.keep k1).c5
        have hfb1 := hrow.frozen 5
        obtain ⟨a1, c1, rfl, -⟩ := own_form hr1
        have FIN := Lib.hid (And.intro hr1 (And.intro k1 f1))
        obtain ⟨n1, hn1⟩ : ∃ n1, (l1 ++ l2).length = n1 := ⟨_, rfl⟩
        rw [hn1] at FIN ⊢
        have HN1 := Lib.hid hn1
        clear hr1 k1 f1 hrow hn1
        go_wp2_with fail
        go_ret
        obtain ⟨hr1, k1, f1⟩ := FIN.out
        have hn1 := HN1.out
        subst hn1
        obtain ⟨hT, hK⟩ := H.out.turn k1 hr1 f1 (.refl _) (List.Sublist.append (.refl _) (List.sublist_cons_self _ _)) H1.out (fun e => List.Sublist.append (.refl _) (List.sublist_cons_self _ _))
        exact ⟨rfl, _, hT, hK, fun b e => .inr (f1 b e)⟩
  · have hne : ((k.size : Int) != m.ks) = true := by rw [bne_iff_ne]; exact hk
    have hne2 : ((k.size : Int) == m.ks) = false := by rw [beq_eq_false_iff_ne]; exact hk
    have e1 : delC m k E = 1 := by unfold delC; rw [if_pos hk]
    have hlk : lookT k E = none := by
      cases hc : lookT k E with
      | none => rfl
      | some x =>
        obtain ⟨hx, rfl⟩ := lookT_some hc
        exact absurd (hsz x hx) hk
    have hdr : dropT k E = E := List.filter_eq_self.2 (by simpa using lookT_none hlk)
    have e2 : delE m k E = E := by unfold delE; rw [hdr]; split <;> rfl
    rw [e1, e2]
    have H := Lib.hid h
    clear h e1 e2 hk hlk hdr hsz
    go_enter Try.func31, Try.ntmps31
    go_wp2_with fail
    go_ret
    exact ⟨rfl, _, H.out, .refl _ _, fun b e => .inl e⟩
end
end Go.Proofs.Ytalahbmahpgkeaa
