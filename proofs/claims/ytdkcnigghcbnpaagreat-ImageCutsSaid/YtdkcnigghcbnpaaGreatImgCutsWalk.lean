/- law18.ImageCuts answers true. -/
import Derived.Test.YtdkcnigghcbnpaaGreatFew18
import Derived.Test.YtdkcnigghcbnpaaGreatHeldQ
namespace Go.Proofs.YtdkcnigghcbnpaaGreat
set_option linter.unusedVariables false
set_option linter.unusedSimpArgs false
open Go.RowKit Go.MapKept

theorem few_small (x : GI) : (fewI x).small := by
  refine ⟨?_, ?_, ?_, fun p hp => ?_, fun d hd => ?_⟩
  · show ((x.P.take 70).map fewP).length ≤ _
    rw [List.length_map, List.length_take]; omega
  · show ((x.D.take 70).map fewD).length ≤ _
    rw [List.length_map, List.length_take]; omega
  · show (x.L.take 70).length ≤ _
    rw [List.length_take]; omega
  · obtain ⟨q, -, rfl⟩ := List.mem_map.1 hp
    show (q.maps.take 20).length ≤ _
    rw [List.length_take]; omega
  · obtain ⟨q, -, rfl⟩ := List.mem_map.1 hd
    show (Go.Proofs.YtdkcnigghcbnpaaGreat.sub q.data 0 (min q.data.size 300)).size ≤ _
    rw [sub_size _ 0 _ (by omega)]; omega
theorem few_d5 (x : GI) : ∀ d ∈ (fewI x).D, d.data.size ≤ 5000 := fun d hd => by
  obtain ⟨q, -, rfl⟩ := List.mem_map.1 hd
  show (Go.Proofs.YtdkcnigghcbnpaaGreat.sub q.data 0 (min q.data.size 300)).size ≤ _
  rw [sub_size _ 0 _ (by omega)]; omega
theorem byteVs_baL (L : List UInt8) : byteVs (baL L) = u8L L := by
  unfold byteVs nums u8L
  rw [baL_list, List.map_map]
  rfl
theorem src_u8 {w : World} {a : Option Addr} {n : Nat} {L : List UInt8} (h : BytesAt w a n (baL L)) : Holds9 w a (u8L L) := by
  rw [← byteVs_baL]
  exact h.src
theorem u8L_one (L : List UInt8) : ∀ u ∈ u8L L, u.oneCell' = true := fun u hu => by
  obtain ⟨x, -, rfl⟩ := List.mem_map.1 hu
  rfl
theorem sub_baL (L : List UInt8) (k : Nat) : Go.Proofs.YtdkcnigghcbnpaaGreat.sub (baL L) 0 k = baL (L.take k) := by
  unfold Go.Proofs.YtdkcnigghcbnpaaGreat.sub
  rw [baL_list, List.drop_zero]
  rfl
theorem ba_self (k : ByteArray) : baL k.data.toList = k := by
  cases k
  rfl
theorem enc_pos (x : GI) : 0 < (encI x).length := by
  show 0 < ((numL 721 ++ cI.enc (natI x) : List UInt8)).length
  rw [List.length_append, numL_len]
  omega
theorem bytes_take {w : World} {a : Option Addr} {n : Nat} {L : List UInt8} (h : BytesAt w a n (baL L)) {k : Nat} (hk : k ≤ n) : BytesAt w a (L.take k).length (baL (L.take k)) := by
  have h1 := h.pre hk
  have hn : n = L.length := by rw [h.1, baL_size]
  rw [sub_baL] at h1
  rw [List.length_take, Nat.min_eq_left (by omega)]
  exact h1
set_option maxRecDepth 100000 in
set_option maxHeartbeats 4000000 in
theorem imageCuts_any (v : Value) (x : GI) (x1 : Int) (ma : Option Addr) (mn mc : Nat) (ms : Nat → Int) (W : World) (hx : ImgAt W (fun b => b < W.heap.size) v x) (hl : x.P.length ≤ 9223372036854775807 ∧ x.D.length ≤ 9223372036854775807 ∧ x.L.length ≤ 9223372036854775807) (hms : Octets W ma mn ms) (hmc : mn ≤ mc) (hmx : mc ≤ 9223372036854775807) :
    Calls Tryz.prog 9 #[v, .int .i64 x1, .slice ma mn mc] W fun e w' => e = .returned (.bool true) ∧ Kept (fun _ => False) W w' := by
  have MB0 := Lib.hid (bytes_of_octets hms)
  have HX := Lib.hid hx
  obtain ⟨pa, pc, da, dc, la, lc, rfl, -, -, -, -, -, -⟩ := hx
  obtain ⟨n1, hn1⟩ : ∃ n1, x.P.length = n1 := ⟨_, rfl⟩
  obtain ⟨n2, hn2⟩ : ∃ n2, x.D.length = n2 := ⟨_, rfl⟩
  obtain ⟨n3, hn3⟩ : ∃ n3, x.L.length = n3 := ⟨_, rfl⟩
  rw [hn1, hn2, hn3] at HX ⊢
  have HLL := Lib.hid hl
  obtain ⟨M, hM⟩ : ∃ M, min mn 20 = M := ⟨_, rfl⟩
  have hm20 : min (mn : Int) 20 = (M : Int) := by omega
  have hM1 : M ≤ mc := by omega
  have HM := Lib.hid (show M ≤ mn ∧ M ≤ 20 from by omega)
  clear hms hl hn1 hn2 hn3 hM
  obtain ⟨ib, hib⟩ : ∃ ib, W.heap.size = ib := ⟨_, rfl⟩
  go_enter Tryz.func9, Tryz.ntmps9
  go_wp2_with fail
  have kq := Kept.one_alloc W (.cells #[.slice pa n1 pc, .slice da n2 dc, .slice la n3 lc] 75)
  have hcel := fun i => World.cell?_alloc_new W #[.slice pa n1 pc, .slice da n2 dc, .slice la n3 lc] 75 i
  refine (shown18_any _).mono ?_
  rintro e w1 ⟨rfl, k1⟩
  have hl1 : ib < (W.alloc (.cells #[.slice pa n1 pc, .slice da n2 dc, .slice la n3 lc] 75)).heap.size := by rw [← hib]; simp
  rw [hib] at hcel
  have c0 := (k1.cell (p := ⟨ib, 0, none⟩) hl1 (fun e => e)).trans (hcel 0)
  have c1 := (k1.cell (p := ⟨ib, 1, none⟩) hl1 (fun e => e)).trans (hcel 1)
  have c2 := (k1.cell (p := ⟨ib, 2, none⟩) hl1 (fun e => e)).trans (hcel 2)
  simp at c0 c1 c2
  have K1 := Lib.hid (kq.trans k1 (fun _ _ e => e))
  clear k1 kq hcel hl1 hib
  go_wp2_with fail
  refine (few_any (HX.out.keep K1.out) HLL.out).mono ?_
  rintro e w2 ⟨v', rfl, hx2, k2⟩
  have X2 := Lib.hid hx2
  have K2 := Lib.hid (K1.out.trans k2 (fun _ _ e => e))
  clear hx2 k2 c0 c1 c2
  go_wp2_with fail
  refine (encode_any X2.out (few_small x) (few_d5 x)).mono ?_
  rintro e w3 ⟨k3, ⟨hr, sv, rfl, hown, -⟩ | ⟨hr, rfl⟩⟩
  case' inr =>
    have K3 := Lib.hid (K2.out.trans k3 (fun _ _ e => e))
    clear k3 hr
    go_wp2_with fail
    go_ret
    exact ⟨rfl, K3.out⟩
  obtain ⟨ea, ec, rfl, hec, hby, -⟩ := own_u8 hown
  have EB0 := Lib.hid hby
  have HR := Lib.hid hr
  have HL7 := Lib.hid (enc_len hr (few_d5 x))
  have hpos := enc_pos (fewI x)
  obtain ⟨LL, hLL⟩ : ∃ LL, encI (fewI x) = LL := ⟨_, rfl⟩
  rw [hLL] at hec hpos EB0 HL7 ⊢
  obtain ⟨n, hn⟩ : ∃ n, LL.length = n := ⟨_, rfl⟩
  rw [hn] at hec hpos HL7 EB0 ⊢
  obtain ⟨m, hm, -⟩ := mask_nat x1 24 (by decide) 16777215 rfl
  obtain ⟨Kc, hKc⟩ : ∃ Kc, m % n = Kc := ⟨_, rfl⟩
  have hk1 : (bits .and .i64 x1 16777215).tmod (n : Int) = (Kc : Int) := by rw [hm, tmod_nat, hKc]
  have hKn : Kc < n := by rw [← hKc]; exact Nat.mod_lt _ hpos
  have hKe : Kc ≤ ec := by omega
  have hn0 : ¬ (n : Int) = 0 := by omega
  have HL := Lib.hid hn
  have HLLE := Lib.hid hLL
  have K3 := Lib.hid (K2.out.trans k3 (fun _ _ e => e))
  have HKN := Lib.hid hKn
  have HEC := Lib.hid hec
  clear k3 hr hown hby hpos hLL hn hm hKc hKn hec
  go_wp2_with fail
  have hlk : (LL.take Kc).length = Kc := by rw [List.length_take, HL.out]; have := HKN.out; omega
  have hdk := decode_row (c := ec) (bytes_take EB0.out (Nat.le_of_lt HKN.out)) (by rw [hlk]; have := HKN.out; have := HEC.out; omega) (by rw [hlk]; have := HKN.out; have := HL7.out; omega)
  rw [hlk] at hdk
  refine hdk.mono ?_
  rintro e w4 ⟨k4, ⟨y, v4, hd, -, -⟩ | ⟨-, rfl⟩⟩
  · rw [← HLLE.out, dec_cut HR.out (by rw [HLLE.out, HL.out]; exact HKN.out)] at hd
    cases hd
  have K4 := Lib.hid (And.intro (K3.out.trans k4 (fun _ _ e => e)) k4)
  clear k4 hdk hlk hk1
  go_upto_region 6 with fail
  obtain ⟨w5, hw5⟩ : ∃ w5, w4.alloc (.cells #[.slice none 0 0, .slice none 0 0, .slice none 0 0] 75) = w5 := ⟨_, rfl⟩
  have k5 : Kept (fun _ => False) w4 w5 := by rw [← hw5]; exact Kept.one_alloc _ _
  obtain ⟨wD, hwD⟩ : ∃ wD, w5.drew = wD := ⟨_, rfl⟩
  have k5D : Kept (fun _ => False) w5 wD := by rw [← hwD]; exact (Kept.refl _ _).drew
  have KD := Lib.hid (K4.out.1.trans (k5.trans k5D (fun _ _ e => e)) (fun _ _ e => e))
  have EB := Lib.hid (EB0.out.kept (K4.out.2.trans (k5.trans k5D (fun _ _ e => e)) (fun _ _ e => e)) (fun _ _ _ e => e))
  obtain ⟨ML, hML⟩ : ∃ ML, ((bytesOf ms mn).data.toList).take M = ML := ⟨_, rfl⟩
  have MB := Lib.hid (show BytesAt wD ma M (baL ML) from by
    have h1 := (MB0.out.kept KD.out (fun _ _ _ e => e)).pre HM.out.1
    rw [← ba_self (bytesOf ms mn), sub_baL, hML] at h1
    exact h1)
  have HML := Lib.hid (show ML.length = M from by have h := MB.out.1; rw [baL_size] at h; exact h.symm)
  have HM20 := Lib.hid HM.out.2
  rw [hw5]
  clear hw5 k5 k5D hML
  refine wp_region_heldQ (S := fun _ => True) (by kernel_rfl) trivial (fun hHeld => ?_)
  refine held_take 1 (oi := _) (v := ?_) rfl (by kernel_rfl) (by kernel_rfl) (by kernel_rfl) (fun _ _ _ h => h) (by rfl) (fun w hSw => ?_) (by assumption) ?_
  rotate_left
  · (try dsimp only at hSw); go_simp; try with_reducible rfl
  try simp only [Act.put, List.setIfInBounds_toArray, List.set_cons_zero, List.set_cons_succ]
  refine held_take 3 (oi := _) (v := ?_) rfl (by kernel_rfl) (by kernel_rfl) (by kernel_rfl) (fun _ _ _ h => h) (by rfl) (fun w hSw => ?_) (by assumption) ?_
  rotate_left
  · (try dsimp only at hSw); go_simp; try with_reducible rfl
  try simp only [Act.put, List.setIfInBounds_toArray, List.set_cons_zero, List.set_cons_succ]
  refine held_take 4 (oi := _) (v := ?_) rfl (by kernel_rfl) (by kernel_rfl) (by kernel_rfl) (fun _ _ _ h => h) (by rfl) (fun w hSw => ?_) (by assumption) ?_
  rotate_left
  · (try dsimp only at hSw); go_simp; try with_reducible rfl
  try simp only [Act.put, List.setIfInBounds_toArray, List.set_cons_zero, List.set_cons_succ]
  refine held_take 5 (oi := _) (v := ?_) rfl (by kernel_rfl) (by kernel_rfl) (by kernel_rfl) (fun _ _ _ h => h) (by rfl) (fun w hSw => ?_) (by assumption) ?_
  rotate_left
  · (try dsimp only at hSw); go_simp; try with_reducible rfl
  try simp only [Act.put, List.setIfInBounds_toArray, List.set_cons_zero, List.set_cons_succ]
  refine held_take 6 (oi := _) (v := ?_) rfl (by kernel_rfl) (by kernel_rfl) (by kernel_rfl) (fun _ _ _ h => h) (by rfl) (fun w hSw => ?_) (by assumption) ?_
  rotate_left
  · (try dsimp only at hSw); go_simp; try with_reducible rfl
  try simp only [Act.put, List.setIfInBounds_toArray, List.set_cons_zero, List.set_cons_succ]
  refine held_take 7 (oi := _) (v := ?_) rfl (by kernel_rfl) (by kernel_rfl) (by kernel_rfl) (fun _ _ _ h => h) (by rfl) (fun w hSw => ?_) (by assumption) ?_
  rotate_left
  · (try dsimp only at hSw); go_simp; try with_reducible rfl
  try simp only [Act.put, List.setIfInBounds_toArray, List.set_cons_zero, List.set_cons_succ]
  refine wpAnyH_ready (rs := [0]) (by kernel_rfl) (by simp) ?_
  refine held_cons 0 (o := _) rfl (fun KC hKC => ?_) AllReadyH.nil
  go_simp
  first | refine alloc_abs (K := KC _) ?_ | refine alloc_absD (K := KC _) ?_
  intro wP kP hP
  have KP := Lib.hid (show Kept (fun _ => False) wD wP from kP)
  have OWN := Lib.hid (own_empty_at (size := 1) hP)
  clear kP hP
  refine hKC.out _ _ ?_ (fun hHeld => ?_)
  · trivial
  clear hKC KC
  try simp only [Act.put, List.setIfInBounds_toArray, List.set_cons_zero, List.set_cons_succ]
  refine wpAnyH_ready (rs := [2]) (by kernel_rfl) (by simp) ?_
  refine held_cons 2 (o := _) rfl (fun KC hKC => ?_) AllReadyH.nil
  refine step_append_mine rfl (.tmp 41) (.tmp 42) imgE rfl rfl OWN.out ea n ec (u8L LL) rfl (by rw [u8L_len, Nat.mul_one]; exact HL.out) (src_u8 (EB.out.kept KP.out (fun _ _ _ e => e))) (u8L_one LL) (by have := HL7.out; unfold maxLen; omega) (by have := HL7.out; omega) ?_
  intro a1 c1 w7 h2 h3 h4
  rw [Nat.zero_add] at h2 h4
  simp only [List.nil_append] at h2
  try simp only [Nat.zero_add]
  have K7 := Lib.hid (show Kept (fun _ => False) wD w7 from KP.out.trans h3 (fun b hb e => by have e : wD.heap.size = b := Option.some.inj (e : (some wD.heap.size : Option Nat) = some b); omega))
  have O7 := Lib.hid h2
  have OB7 := Lib.hid (show ∀ b, (Value.slice a1 n c1).ownBlock = some b → wD.heap.size ≤ b from fun b e => by
    rcases h4 with ho | ho
    · have e' : wD.heap.size = b := Option.some.inj (ho.symm.trans e)
      omega
    · have := Option.some.inj (ho.symm.trans e); have := KP.out.size; omega)
  clear h2 h3 h4
  refine hKC.out _ _ ?_ (fun hHeld => ?_)
  · trivial
  clear hKC KC
  try simp only [Act.put, List.setIfInBounds_toArray, List.set_cons_zero, List.set_cons_succ]
  refine wpAnyH_ready (rs := [8]) (by kernel_rfl) (by simp) ?_
  refine held_cons 8 (o := _) rfl (fun KC hKC => ?_) AllReadyH.nil
  refine step_append_mine rfl (.tmp 43) (.tmp 48) imgE rfl rfl O7.out ma M mc (u8L ML) rfl (by rw [u8L_len, Nat.mul_one]; exact HML.out) (src_u8 (MB.out.kept K7.out (fun _ _ _ e => e))) (u8L_one ML) (by have := HL7.out; have := HM20.out; unfold maxLen; omega) (by have := HL7.out; have := HM20.out; omega) ?_
  intro a2 c2 w8 h2 h3 h4
  have K8 := Lib.hid (show Kept (fun _ => False) wD w8 from K7.out.trans h3 (fun b hb e => absurd hb (Nat.not_lt.2 (OB7.out b e))))
  have O8 := Lib.hid h2
  have OB8 := Lib.hid (show ∀ b, (Value.slice a2 (n + M) c2).ownBlock = some b → wD.heap.size ≤ b from fun b e => by
    rcases h4 with ho | ho
    · exact OB7.out b (ho.symm.trans e)
    · have := Option.some.inj (ho.symm.trans e); have := K7.out.size; omega)
  clear h2 h3 h4
  refine hKC.out _ _ ?_ (fun hHeld => ?_)
  · trivial
  clear hKC KC
  try simp only [Act.put, List.setIfInBounds_toArray, List.set_cons_zero, List.set_cons_succ]
  refine held_take 9 (oi := _) (v := ?_) rfl (by kernel_rfl) (by kernel_rfl) (by kernel_rfl) (fun _ _ _ h => h) (by rfl) (fun w hSw => ?_) (by assumption) ?_
  rotate_left
  · (try dsimp only at hSw); go_simp; try with_reducible rfl
  try simp only [Act.put, List.setIfInBounds_toArray, List.set_cons_zero, List.set_cons_succ]
  refine wpAnyH_done (by kernel_rfl) ?_ _
  have HROW := Lib.hid (ownsRow_kept O8.out (Kept.one_alloc w8 (.cells #[.int .u8 0] 5)) (fun _ _ e => e))
  go_wp2_with (at_builtin; refine wpList_append_mine rfl _ _ imgE rfl rfl HROW.out (some ⟨w8.heap.size, 0, none⟩) 1 1 [.int .u8 0] rfl rfl (holds_block (heap_alloc_new w8 _)) (by simp [Value.oneCell']) (by have := HL7.out; have := HM20.out; unfold maxLen; omega) (by have := HL7.out; have := HM20.out; omega) ?_; intro a3 c3 w9 own9 k9 b9; have O9 := Lib.hid (And.intro own9 (And.intro k9 b9)); clear own9 k9 b9)
  have hl9 : (LL ++ (ML ++ [0])).length = n + M + 1 := by rw [List.length_append, List.length_append, HL.out, HML.out]; show n + (M + 1) = _; omega
  have hown9 : w9.ownsRow 0 5 1 (.slice a3 (n + M + 1) c3) (LL ++ (ML ++ [0])).length (u8L (LL ++ (ML ++ [0]))) := by
    rw [hl9, ← List.append_assoc, u8L_append, u8L_append]
    exact O9.out.1
  obtain ⟨a9, c9, e9, hc9, hby9, -⟩ := own_u8 hown9
  rw [hl9] at e9 hc9
  cases e9
  have hdk := decode_row (c := c3) hby9 (by rw [hl9]; exact hc9) (by rw [hl9]; have := HL7.out; have := HM20.out; omega)
  rw [hl9] at hdk
  have K9 := Lib.hid (show Kept (fun _ => False) W w9 from (KD.out.trans (K8.out.trans (Kept.one_alloc w8 (.cells #[.int .u8 0] 5)) (fun _ _ e => e)) (fun _ _ e => e)).trans O9.out.2.1 (fun b hb e => by have := OB8.out b e; have := KD.out.size; omega))
  refine hdk.mono ?_
  rintro e w10 ⟨k10, ⟨y, v10, hd, -, -⟩ | ⟨-, rfl⟩⟩
  · rw [← HLLE.out, dec_more HR.out (by simp)] at hd
    cases hd
  have K10 := Lib.hid (K9.out.trans (k10.trans (Kept.one_alloc w10 (.cells #[.slice none 0 0, .slice none 0 0, .slice none 0 0] 75)) (fun _ _ e => e)) (fun _ _ e => e))
  clear k10 hdk hby9 hc9 hown9 hl9
  go_wp2_with fail
  go_ret
  exact ⟨rfl, K10.out⟩
end Go.Proofs.YtdkcnigghcbnpaaGreat
