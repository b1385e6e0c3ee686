/- LruAgain, walked: for any keys, any one of them, any value, it answers true. -/
import Derived.Test.YteiilokhkpaoeaaLruAll
import Derived.Test.YteiilokhkpaoeaaShown9
import Derived.Test.YteiilokhkpaoeaaTexts
import Derived.Test.YteiilokhkpaoeaaAppend
import Derived.Test.YteiilokhkpaoeaaNum
import Derived.Test.YteiilokhkpaoeaaBox
import Derived.Test.YteiilokhkpaoeaaRound
import Derived.Test.YteiilokhkpaoeaaBytes
import Derived.Test.YteiilokhkpaoeaaKeys
import Derived.Test.YteiilokhkpaoeaaLeave
namespace Go.Proofs.Yteiilokhkpaoeaa
set_option linter.unusedVariables false
set_option linter.unusedSimpArgs false
open Go.RowKit Go.MapKept

theorem textE : Elem Try.prog 22 9 (.string ⟨#[]⟩) 1 16 := ⟨Try.underlying22, by kernel_rfl, rfl, by omega⟩

/-- What LruAgain has of its own: the boxes of v, of the result, of the key, and of the others; the others' row. -/
structure AgOwn (vb rb kb ob : Nat) (v : Int) (key : ByteArray) (ys : List ByteArray) (X U : Nat → Prop) (W : World) : Prop where
  bv : Box W vb (.int .i64 v)
  br : Box W rb (.bool false)
  bk : Box W kb (.string key)
  bo : ∃ o, Box W ob o ∧ W.ownsRow 0 9 1 o ys.length (ys.map Value.string) ∧ ∀ b, o.ownBlock = some b → U b ∧ ¬ X b
  mem : U vb ∧ U rb ∧ U kb ∧ U ob
theorem AgOwn.change {vb rb kb ob : Nat} {v : Int} {key : ByteArray} {ys : List ByteArray} {X U S : Nat → Prop} {W W' : World} (h : AgOwn vb rb kb ob v key ys X U W) (k : Kept S W W') (hn : ∀ b, S b → U b → X b ∧ b ≠ vb ∧ b ≠ rb ∧ b ≠ kb ∧ b ≠ ob) : AgOwn vb rb kb ob v key ys X U W' := by
  obtain ⟨o, h1, h2, h3⟩ := h.bo
  obtain ⟨m1, m2, m3, m4⟩ := h.mem
  exact ⟨h.bv.kept k (fun e => (hn _ e m1).2.1 rfl), h.br.kept k (fun e => (hn _ e m2).2.2.1 rfl), h.bk.kept k (fun e => (hn _ e m3).2.2.2.1 rfl), ⟨o, h1.kept k (fun e => (hn _ e m4).2.2.2.2 rfl), ownsRow_kept h2 k (fun b hb e => (h3 b hb).2 (hn b e (h3 b hb).1).1), h3⟩, h.mem⟩
theorem AgOwn.kept {vb rb kb ob : Nat} {v : Int} {key : ByteArray} {ys : List ByteArray} {X U : Nat → Prop} {W W' : World} (h : AgOwn vb rb kb ob v key ys X U W) (k : Kept (fun b => ¬ U b) W W') : AgOwn vb rb kb ob v key ys X U W' :=
  h.change k (fun b e u => (e u).elim)

set_option maxRecDepth 100000 in
set_option maxHeartbeats 2000000 in
theorem again_any (a : Option Addr) (n c : Nat) (ss : Nat → ByteArray) (which v : Int) (w : World) (hs : Texts w a n ss) (hn : n ≤ 9223372036854775807) (hnc : n ≤ c) :
    Calls Try.prog 8 #[.slice a n c, .int .i64 which, .int .i64 v] w fun e w' => e = .returned (.bool true) ∧ Kept (fun _ => False) w w' := by
  have HS := Lib.hid hs
  clear hs
  by_cases hn0 : n = 0
  · have hn00 : ((n : Int) == 0) = true := by rw [beq_iff_eq]; omega
    refine callsIn_WR (ro := none) (n := 0).1 (callsIn_of_wp_marks Try.func8 rfl trivial ?_ rfl)
    simp only [Try.ntmps8, List.size_toArray, List.length_cons, List.length_nil, Nat.reduceAdd, Nat.reduceSub, Array.replicate_succ, Array.replicate_zero, List.push_toArray, List.append_toArray, List.nil_append, List.cons_append]
    gi_wp2_with fail
    obtain ⟨W0, hW0⟩ : ∃ W0, W0 = (w.alloc (.cells #[.int .i64 v] 3)).alloc (.cells #[.bool false] 4) := ⟨_, rfl⟩
    have kW0 : Kept (fun _ => False) w W0 := by rw [hW0]; exact ((Kept.refl _ w).alloc _).alloc _
    have br : Box W0 (w.heap.size + 1) (.bool false) := by rw [hW0]; have := Box.new (w.alloc (.cells #[.int .i64 v] 3)) (.bool false) 4; rwa [World.size_alloc] at this
    obtain ⟨rb, hrb⟩ : ∃ rb, w.heap.size + 1 = rb := ⟨_, rfl⟩
    rw [← hW0, hrb]
    rw [hrb] at br
    clear hW0
    refine callsIn_WR.2 ((shown9 W0).mono ?_)
    rintro e w0 ⟨rfl, k0⟩
    gi_wp2_with fail
    refine callsIn_WR.2 ((SI.new_own _ w0).mono ?_)
    rintro e w1 ⟨bl, bm, rfl, hL, k1, gl, gm⟩
    have k1' : Kept (fun _ => False) w w1 := (kW0.trans k0 (fun _ _ e => e)).trans k1 (fun b hb e => by have := k0.size; have := kW0.size; omega)
    have br1 := (br.kept k0 (fun e => e)).kept k1 (by have := k0.size; have := br.lt; omega)
    have hcr := br1.cell
    have hfr := br1.frozen
    clear k0 k1 kW0 br hL gl gm
    gi_wp2_with fail
    refine ⟨_, results_box rfl Try.underlying4 rfl rfl (br1.set _), rfl, ?_⟩
    exact k1'.setCell _ _ (fun h => by have h : rb < w.heap.size := h; omega)
  have hn00 : ((n : Int) == 0) = false := by rw [beq_eq_false_iff_ne]; omega
  by_cases h40 : n ≤ 40
  case' pos =>
    obtain ⟨N, hN⟩ : ∃ N, N = n := ⟨_, rfl⟩
    have hmin : min (n : Int) 40 = n := by omega
    have hsl : Value.slice a n c = Value.slice a N c := by rw [hN]
  case' neg =>
    obtain ⟨N, hN⟩ : ∃ N, N = 40 := ⟨_, rfl⟩
    have hmin : min (n : Int) 40 = 40 := by omega
    have hsl : Value.slice a 40 c = Value.slice a N c := by rw [hN]
  case' pos => skip
  all_goals
    have hNn : N ≤ n ∧ 0 < N ∧ N ≤ 40 := by omega
    have HSL := Lib.hid hsl
    clear hsl hN
    obtain ⟨X, hX, hXN⟩ : ∃ X : Nat, (bits BinOp.and IntKind.i64 which 65535).tmod (N : Int) = (X : Int) ∧ X < N := by
      obtain ⟨m, hm, _⟩ := mask_nat which 16 (by omega) 65535 (by decide)
      exact ⟨m % N, by rw [hm, tmod_nat], Nat.mod_lt _ (by omega)⟩
    have hN0 : ¬ ((N : Int) = 0) := by omega
    refine callsIn_WR (ro := none) (n := 0).1 (callsIn_of_wp_marks Try.func8 rfl trivial ?_ rfl)
    simp only [Try.ntmps8, List.size_toArray, List.length_cons, List.length_nil, Nat.reduceAdd, Nat.reduceSub, Array.replicate_succ, Array.replicate_zero, List.push_toArray, List.append_toArray, List.nil_append, List.cons_append]
    gi_wp2_with fail
    obtain ⟨W0, hW0⟩ : ∃ W0, W0 = (w.alloc (.cells #[.int .i64 v] 3)).alloc (.cells #[.bool false] 4) := ⟨_, rfl⟩
    have kW0 : Kept (fun _ => False) w W0 := by rw [hW0]; exact ((Kept.refl _ w).alloc _).alloc _
    have bv : Box W0 w.heap.size (.int .i64 v) := by rw [hW0]; exact (Box.new w _ 3).alloc _
    have br : Box W0 (w.heap.size + 1) (.bool false) := by rw [hW0]; have := Box.new (w.alloc (.cells #[.int .i64 v] 3)) (.bool false) 4; rwa [World.size_alloc] at this
    have zW0 : W0.heap.size = w.heap.size + 2 := by rw [hW0]; simp
    rw [← hW0]
    clear hW0
    obtain ⟨vb, hvb⟩ : ∃ vb, w.heap.size = vb := ⟨_, rfl⟩
    rw [hvb] at bv br zW0 ⊢
    obtain ⟨rb, hrb⟩ : ∃ rb, vb + 1 = rb := ⟨_, rfl⟩
    rw [hrb] at br ⊢
    refine callsIn_WR.2 ((shown9 W0).mono ?_)
    rintro e w0 ⟨rfl, k0⟩
    gi_wp2_with fail
    refine callsIn_WR.2 ((SI.new_own _ w0).mono ?_)
    rintro e w1 ⟨bl, bm, rfl, hL, k1, gl, gm⟩
    rw [show max (100 : Int) 1 = 100 by omega] at hL
    have k1 : Kept (fun b => W0.heap.size ≤ b) W0 w1 := (k0.mono (S' := fun b => W0.heap.size ≤ b) (fun _ _ e => e.elim)).trans k1 (fun b hb e => by have := k0.size; omega)
    have gl : W0.heap.size ≤ bl := by have := k0.size; omega
    have gm : W0.heap.size ≤ bm := by have := k0.size; omega
    have KV := Lib.hid (And.intro hvb (And.intro hrb (And.intro kW0 (And.intro bv (And.intro br zW0)))))
    clear k0 kW0 bv br zW0 hvb hrb
    gi_wp2_with fail
    rw [HSL.out]
    gi_loopw [9] (fun i wr => ∃ (k : Nat) (xs : List (Ent ByteArray Int)), k ≤ N ∧ i = .int .i64 k ∧ SI.L wr bl bm 100 xs ∧ xs.length ≤ k ∧ (∀ j, j < k → ∃ x ∈ xs, x.k = ss j) ∧ (∀ x ∈ xs, W0.heap.size ≤ x.b) ∧ Kept (fun b => W0.heap.size ≤ b) W0 wr) (fun i _ => N - (intOf i).toNat)
    case atStart => exact ⟨0, [], Nat.zero_le _, rfl, hL, by simp, fun j hj => by omega, by simp, k1⟩
    case round =>
      obtain ⟨k, xs, hk, rfl, hx, hlen, hthere, hge, hkr⟩ := hrel
      have HT := Lib.hid hthere
      clear hthere hL k1
      by_cases hlt : k < N
      · obtain ⟨b, o, rfl, hb, hc⟩ := HS.out k (by omega)
        have hb' : b < W0.heap.size ∧ ¬ (W0.heap.size ≤ b) := by have := KV.out.2.2.1.size; omega
        have hcell : wr.cell? ⟨b, o + k, none⟩ = some (.string (ss k)) := (hkr.cell (p := ⟨b, o + k, none⟩) hb'.1 hb'.2).trans ((KV.out.2.2.1.cell (p := ⟨b, o + k, none⟩) hb (fun e => e)).trans hc)
        clear hc
        gi_wp2_with fail
        refine callsIn_WR.2 ((SI.put_any hx (by omega)).mono ?_)
        rintro e w2 ⟨rfl, h3, k3, z3⟩
        have hk3 := hkr.own k3 (fp_ge gl gm hge)
        have hge3 := fp_ge_put (most := 100) (nb := wr.heap.size) (k := ss k) (v := (k : Int)) (fp_ge gl gm hge) hkr.size
        have H3 : ∀ j, j < k + 1 → ∃ x ∈ putE 100 wr.heap.size (ss k) (k : Int) xs, x.k = ss j := by
          intro j hj
          by_cases e : j = k
          · rw [e]; exact putE_self _ _ _ _ _
          · exact putE_old _ _ _ (by omega) (HT.out j (by omega))
        have hl3 := putE_len 100 wr.heap.size (ss k) (k : Int) xs
        have H3 := Lib.hid H3
        have HG := Lib.hid hge3
        clear hge3 hcell k3 hx
        gi_wp2_with fail
        go_roundw
        case rel => exact ⟨k + 1, _, by omega, by go_num, h3, by omega, H3.out, fun x hx => HG.out _ (.inr (.inr ⟨x, hx, rfl⟩)), hk3⟩
        case measure => simp [intOf]; omega
      · obtain rfl : k = N := by omega
        obtain ⟨b, o, rfl, hb, hc⟩ := HS.out X (by omega)
        have hb' : b < W0.heap.size ∧ ¬ (W0.heap.size ≤ b) := by have := KV.out.2.2.1.size; omega
        have hcell : wr.cell? ⟨b, o + X, none⟩ = some (.string (ss X)) := (hkr.cell (p := ⟨b, o + X, none⟩) hb'.1 hb'.2).trans ((KV.out.2.2.1.cell (p := ⟨b, o + X, none⟩) hb (fun e => e)).trans hc)
        clear hc
        gi_wp2_with fail
        obtain ⟨kb, hkb⟩ : ∃ kb, wr.heap.size = kb := ⟨_, rfl⟩
        obtain ⟨ob, hob⟩ : ∃ ob, kb + 1 = ob := ⟨_, rfl⟩
        obtain ⟨key, hkey⟩ : ∃ key, ss X = key := ⟨_, rfl⟩
        obtain ⟨w1, hw1⟩ : ∃ w1, w1 = (wr.alloc (.cells #[.string (ss X)] 9)).alloc (.cells #[.slice none 0 0] 22) := ⟨_, rfl⟩
        have kw1 : Kept (fun _ => False) wr w1 := by rw [hw1]; exact ((Kept.refl _ wr).alloc _).alloc _
        have bk1 : Box w1 kb (.string key) := by rw [hw1, ← hkb, ← hkey]; exact (Box.new wr _ 9).alloc _
        have bo1 : Box w1 ob (.slice none 0 0) := by rw [hw1, ← hob, ← hkb]; have := Box.new (wr.alloc (.cells #[.string (ss X)] 9)) (.slice none 0 0) 22; rwa [World.size_alloc] at this
        have z1 : w1.heap.size = kb + 2 := by rw [hw1, ← hkb]; simp
        rw [← hw1, hkb, hob]
        clear hw1
        refine callsIn_WR.2 ((SI.all_own bl w1).mono ?_)
        rintro e w2 ⟨bx0, rfl, _, k2, _⟩
        have hnf := run_eq_nilFunc (P := Try.prog) w2 (.func 55) #[] #[.pointer (some ⟨bx0, 0, none⟩)] Try.underlying55
        gi_wp2_with fail
        refine callsIn_WR.2 ((SI.all_own bl w2).mono ?_)
        rintro e w3 ⟨bx, rfl, hbx, k3, gx⟩
        gi_wp2_with fail
        have k13 : Kept (fun _ => False) w1 w3 := k2.trans k3 (fun _ _ e => e)
        obtain ⟨_, hrb, kW0, bv0, br0, zW0⟩ := KV.out
        have hx3 : SI.L w3 bl bm 100 xs := (hx.kept kw1 (fun _ _ e => e)).kept k13 (fun _ _ e => e)
        have hRd : SI.Rd bx bl bm 100 xs w3 := ⟨hbx.cell, hbx.lt, hx3⟩
        have hfp : ∀ b, Lfp bl bm xs b → W0.heap.size ≤ b ∧ b < kb := fun b hb => ⟨fp_ge gl gm hge b hb, by rw [← hkb]; exact hx.lt b hb⟩
        have hvr : vb < W0.heap.size ∧ rb < W0.heap.size := by omega
        have hWk : W0.heap.size ≤ kb := by rw [← hkb]; exact hkr.size
        have hx2 : kb + 2 ≤ bx := by have := k2.size; omega
        have hown : AgOwn vb rb kb ob v key [] (fun b => b = vb ∨ b = rb ∨ b = kb ∨ b = ob) (fun b => b = vb ∨ b = rb ∨ b = kb ∨ b = ob) w3 :=
          ⟨((bv0.kept hkr (by omega)).kept kw1 (fun e => e)).kept k13 (fun e => e), ((br0.kept hkr (by omega)).kept kw1 (fun e => e)).kept k13 (fun e => e), bk1.kept k13 (fun e => e), ⟨_, bo1.kept k13 (fun e => e), ⟨rfl, .inl ⟨rfl, rfl⟩⟩, fun b hb => by simp [Value.ownBlock] at hb⟩, by simp⟩
        refine wpW_range (SI.all1 bx bl bm 100 xs) rfl SI.enters (fun _ => rfl) (fun (pre : List (Ent ByteArray Int)) U W => AgOwn vb rb kb ob v key (others key (pre.map (·.k))) (fun b => b = vb ∨ b = rb ∨ b = kb ∨ b = ob) U W) (fun _ _ _ => False) (fun b => b = vb ∨ b = rb ∨ b = kb ∨ b = ob)
          (fun (pre : List (Ent ByteArray Int)) U W W' (h : AgOwn vb rb kb ob v key (others key (pre.map (fun x => x.k))) (fun b => b = vb ∨ b = rb ∨ b = kb ∨ b = ob) U W) (k : Kept (fun b => ¬ U b) W W') => AgOwn.kept h k) (fun _ _ _ _ h _ => h) ?_ ?_ ?_ hRd ?_ hown ?_ ?_ (fun _ _ _ _ h => h.elim)
        · rintro b hb (rfl | hd)
          · omega
          · have := hfp b hd; omega
        · rintro b (rfl | hd)
          · exact hbx.lt
          · exact hx3.lt b hd
        · have := k13.size
          rintro b hb
          omega
        · exact fun W W' h k => h.kept k (fun e => e (.inl rfl)) (fun b hb e => e (.inr hb))
        · intro l pre x rest U' W hitems hi hlt' hD' hRd' hl hlD hlW hUU
          have HUU := Lib.hid hUU
          have HLT := Lib.hid hlt'
          have HDD := Lib.hid hD'
          have HFP := Lib.hid hfp
          have HIT := Lib.hid hitems
          have HGE := Lib.hid hge
          clear hUU hlt' hD' hRd' hlD hfp hitems hge hnf hown hx3 hRd hx k2 k3 k13 kw1 bk1 bo1 hkr
          simp only [List.zip_toArray, List.zip_cons_cons, List.zip_nil_left, List.foldl_toArray', List.foldl_cons, List.foldl_nil, List.setIfInBounds_toArray, List.set_cons_succ, List.set_cons_zero]
          gi_wp2_with (rw [Oper.semAt_eq _ _ _ (fun c h => by cases h)]; go_simp; try go_bits)
          refine ⟨trivial, ?_⟩
          intro W2 kl zl
          have ZL := Lib.hid zl
          clear zl
          have hi2 : AgOwn vb rb kb ob v key (others key (pre.map (·.k))) (fun b => b = vb ∨ b = rb ∨ b = kb ∨ b = ob) U' W2 := hi.kept (kl.mono fun b _ e h => by subst e; exact hl h)
          obtain ⟨o, ho, hrow, hoo⟩ := hi2.bo
          have hck := hi2.bk.cell
          have hco := ho.cell
          have hfo := ho.frozen
          have hlen40 : (others key (pre.map (·.k))).length ≤ 40 := by
            have h1 := others_len key (pre.map (·.k))
            have h2 := congrArg List.length HIT.out
            simp only [List.length_map, List.length_append] at h1 h2
            omega
          have hmap : (pre ++ [x]).map (·.k) = pre.map (·.k) ++ [x.k] := by simp
          have HM := Lib.hid hmap
          clear hmap
          by_cases hk : x.k = key
          · rw [← hk] at hck
            gi_wp2_with (rw [Oper.semAt_eq _ _ _ (fun c h => by cases h)]; go_simp; try go_bits)
            have hend := round_plain kl hl HLT.out hlW (Kept.refl U' W2)
            refine ⟨hend.1, U', hend.2.1, hl, hend.2.2.2, ?_⟩
            show AgOwn vb rb kb ob v key (others key ((pre ++ [x]).map (·.k))) _ _ _
            rw [HM.out, others_self _ hk]
            exact hi2
          · have hne := bytes_ne hk
            have hrow2 := ownsRow_kept hrow (Kept.one_alloc W2 (.cells #[.string x.k] 9)) (fun _ _ e => e)
            gi_wp2_with (first
              | (gi_at_builtin; refine wpListW_append_mine rfl _ _ textE rfl rfl hrow2 (some ⟨W2.heap.size, 0, none⟩) 1 1 [.string x.k] rfl rfl (holds_block (heap_alloc_new W2 _)) (by simp [Value.oneCell']) (by unfold maxLen; omega) (by omega) ?_
                 intro a' c' w' h2 h3 h4
                 have bo4 := (ho.alloc (.cells #[.string x.k] 9)).kept h3 (fun e => (hoo _ e).2 (.inr (.inr (.inr rfl))))
                 have hco4 := bo4.cell
                 have hfo4 := bo4.frozen
                 go_frame)
              | (rw [Oper.semAt_eq _ _ _ (fun c h => by cases h)]; go_simp; try go_bits))
            have kall : Kept (fun b => b = ob ∨ o.ownBlock = some b) W2 (w'.setCell ⟨ob, 0, none⟩ (.slice a' ((others key (pre.map (·.k))).length + 1) c')) :=
              (((Kept.one_alloc W2 (.cells #[.string x.k] 9)).mono (S' := fun b => b = ob ∨ o.ownBlock = some b) (fun _ _ e => e.elim)).trans h3 (fun b _ e => .inr e)).setCell _ _ (fun _ => .inl rfl)
            have ho5 := bo4.set (.slice a' ((others key (pre.map (·.k))).length + 1) c')
            have hown5 := ownsRow_kept h2 (Kept.one_set w' ⟨ob, 0, none⟩ (.slice a' ((others key (pre.map (·.k))).length + 1) c')) (fun b e => by
              have h2lt := h2.lt b e
              rcases h4 with h4 | h4
              · exact fun e' => (hoo b (h4 ▸ e)).2 (.inr (.inr (.inr e')))
              · rw [h4] at e
                cases e
                have := ho.lt
                simp
                omega)
            have hend := round_append (o := o) (o' := .slice a' ((others key (pre.map (·.k))).length + 1) c') kl hl HLT.out hlW hi2.mem.2.2.2 (fun b e => (hoo b e).1) kall (h4.imp id (fun e => ⟨_, by simp, e⟩)) (fun b e => (hown5.lt b e).2)
            refine ⟨hend.1, _, hend.2.1, hend.2.2.1, hend.2.2.2, ?_⟩
            show AgOwn vb rb kb ob v key (others key ((pre ++ [x]).map (·.k))) _ _ _
            rw [HM.out, others_more _ hk]
            have hs := kl.size
            have hbl : ∀ b, b = vb ∨ b = rb ∨ b = kb → b ≠ ob ∧ o.ownBlock ≠ some b := by
              intro b hb
              refine ⟨by omega, fun e => (hoo b e).2 (by rcases hb with h | h | h <;> simp [h])⟩
            have hnk : ∀ b, b = vb ∨ b = rb ∨ b = kb → ¬ (b = ob ∨ o.ownBlock = some b) := fun b hb h => h.elim (hbl b hb).1 (hbl b hb).2
            refine ⟨hi2.bv.kept kall (hnk _ (.inl rfl)), hi2.br.kept kall (hnk _ (.inr (.inl rfl))), hi2.bk.kept kall (hnk _ (.inr (.inr rfl))), ⟨_, ho5, ?_, ?_⟩, .inl hi2.mem.1, .inl hi2.mem.2.1, .inl hi2.mem.2.2.1, .inl hi2.mem.2.2.2⟩
            · simpa using hown5
            · intro b e
              refine ⟨.inr e, ?_⟩
              rcases h4 with h4 | h4
              · exact (hoo b (h4 ▸ e)).2
              · rw [h4] at e
                cases e
                have l1 := hi2.bv.lt
                have l2 := hi2.br.lt
                have l3 := hi2.bk.lt
                have l4 := ho.lt
                simp
                omega
        · intro dk U3 W3 hi kw hRd' hdk hdkn hdkU hUU hUn hUlt
          obtain ⟨e0, he0, hek⟩ := HT.out X hXN
          rw [hkey] at hek
          rcases split_key hx.keys key with ⟨_, e2, _⟩ | ⟨l1, x, l2, hxs, hxk, _, hdrop⟩
          · exact (e2 e0 he0 hek).elim
          have hoth : others key (xs.map (·.k)) = (l1 ++ l2).map (·.k) := by rw [others_drop, hdrop]
          have hLlen : xs.length = l1.length + l2.length + 1 := by rw [hxs]; simp <;> omega
          have hL4 : SI.L W3 bl bm 100 (l1 ++ x :: l2) := by rw [← hxs]; exact hRd'.2.2
          have hfp4 : ∀ b, Lfp bl bm (l1 ++ x :: l2) b → ¬ U3 b := by
            intro b hb hu
            rw [← hxs] at hb
            have h1 := hfp b hb
            rcases hUn b hu with h | h
            · omega
            · have := hx3.lt b hb
              omega
          have hyl : (others key (xs.map (·.k))).length = l1.length + l2.length := by rw [hoth]; simp
          generalize others key (xs.map (·.k)) = ys at hi hoth hyl
          have hM : (xs.length : Int) = ((l1.length + l2.length + 1 : Nat) : Int) := by rw [hLlen]
          obtain ⟨M, hMM⟩ : ∃ M, M = l1.length + l2.length := ⟨_, rfl⟩
          rw [← hMM] at hyl hM
          have hfin : ∀ v', ((l1 ++ l2 ++ [({ x with v := v' } : Ent ByteArray Int)]).length : Int) = ((M + 1 : Nat) : Int) := by intro v'; rw [hMM]; simp <;> omega
          have HFI := Lib.hid hfin
          have HO := Lib.hid hoth
          have HYL := Lib.hid hyl
          have HFP := Lib.hid hfp
          have HF4 := Lib.hid hfp4
          have HUN := Lib.hid hUn
          have HGE := Lib.hid hge
          have HMM := Lib.hid hMM
          have hM40 : M ≤ 40 := by omega
          have k13' := k13.size
          clear hfin hoth hyl hfp hfp4 hUn hge hnf hown hx3 hRd hx k2 k3 bk1 bo1 hMM hLlen hdrop hek he0
          gi_wp2_with fail
          refine callsIn_WR.2 ((SI.len_any hRd'.2.2).mono ?_)
          rintro e W4 ⟨rfl, rfl⟩
          rw [hM]
          have hck := hi.bk.cell
          have hcv := hi.bv.cell
          gi_wp2_with fail
          rw [← hxk]
          refine callsIn_WR.2 ((SI.put_hit hL4 (v := v)).mono ?_)
          rintro e W5 ⟨rfl, hL5, k5, z5⟩
          have hi5 := hi.change k5 (fun b hb hu => (HF4.out b hb hu).elim)
          clear hck hcv hi hRd'
          gi_wp2_with fail
          obtain ⟨ib, hib⟩ : ∃ ib, W3.heap.size = ib := ⟨_, rfl⟩
          have hib5 : W5.heap.size = ib := z5.trans hib
          obtain ⟨W6, hW6⟩ : ∃ W6, W6 = W5.alloc (.cells #[.int .i64 0] 3) := ⟨_, rfl⟩
          have k6 : Kept (fun _ => False) W5 W6 := by rw [hW6]; exact (Kept.refl _ W5).alloc _
          have bi6 : Box W6 ib (.int .i64 0) := by rw [hW6, ← hib5]; exact Box.new W5 _ 3
          have z6 : W6.heap.size = ib + 1 := by rw [hW6, ← hib5]; simp
          rw [← hW6, hib]
          clear hW6
          have hibn : ib ≠ vb ∧ ib ≠ rb ∧ ib ≠ kb ∧ ib ≠ ob := by have := kw.size; omega
          refine callsIn_WR.2 ((SI.all_own bl W6).mono ?_)
          rintro e W7 ⟨bx2, rfl, hbx2, k7, gx2⟩
          gi_wp2_with fail
          obtain ⟨xs2, hxs2⟩ : ∃ xs2, xs2 = l1 ++ l2 ++ [({ x with v := v } : Ent ByteArray Int)] := ⟨_, rfl⟩
          rw [← hxs2] at hL5
          have hL7 : SI.L W7 bl bm 100 xs2 := (hL5.kept k6 (fun _ _ e => e)).kept k7 (fun _ _ e => e)
          have hRd7 : SI.Rd bx2 bl bm 100 xs2 W7 := ⟨hbx2.cell, hbx2.lt, hL7⟩
          have hfp7 : ∀ b, Lfp bl bm xs2 b → Lfp bl bm (l1 ++ x :: l2) b := by
            rintro b (h | h | ⟨y, hy, h⟩)
            · exact .inl h
            · exact .inr (.inl h)
            · refine .inr (.inr ?_)
              rw [hxs2] at hy
              simp only [List.mem_append, List.mem_singleton] at hy
              rcases hy with (hy | hy) | rfl
              · exact ⟨y, by simp [hy], h⟩
              · exact ⟨y, by simp [hy], h⟩
              · exact ⟨x, by simp, h⟩
          have hi7 : AgOwn vb rb kb ob v key ys (fun b => b = vb ∨ b = rb ∨ b = kb ∨ b = ob ∨ b = ib) (fun b => U3 b ∨ b = ib) W7 := by
            have h := (hi5.change k6 (fun _ e => e.elim)).change k7 (fun _ e => e.elim)
            obtain ⟨o, h1, h2, h3⟩ := h.bo
            refine ⟨h.bv, h.br, h.bk, ⟨o, h1, h2, fun b e => ⟨.inl (h3 b e).1, ?_⟩⟩, .inl h.mem.1, .inl h.mem.2.1, .inl h.mem.2.2.1, .inl h.mem.2.2.2⟩
            have hlt3 := hUlt b (h3 b e).1
            have := (h3 b e).2
            simp only [not_or] at this ⊢
            omega
          have bi7 := bi6.kept k7 (fun e => e)
          have hU3 : ∀ b, U3 b → b < ib := fun b h => by have := hUlt b h; omega
          have hxv : ∀ pre y rest, xs2 = pre ++ y :: rest → (pre.length < M ∧ ys[pre.length]? = some y.k) ∨ (pre.length = M ∧ y.k = key ∧ y.v = v) := by
            intro pre y rest h
            have hM' := HMM.out
            have hyat : xs2[pre.length]? = some y := by rw [h]; simp
            have hll : xs2.length = M + 1 := by rw [hxs2, hM']; simp <;> omega
            have hpl : pre.length < xs2.length := by rw [h]; simp
            rw [hxs2] at hyat
            by_cases hp : pre.length < M
            · refine .inl ⟨hp, ?_⟩
              rw [List.getElem?_append_left (by simp; omega)] at hyat
              rw [HO.out, List.getElem?_map, hyat]
              rfl
            · have hpM : pre.length = M := by omega
              refine .inr ⟨hpM, ?_⟩
              rw [List.getElem?_append_right (by simp; omega), show pre.length - (l1 ++ l2).length = 0 by simp; omega] at hyat
              simp at hyat
              rw [← hyat]
              exact ⟨hxk, rfl⟩
          have HXV := Lib.hid hxv
          have HFP7 := Lib.hid hfp7
          have HU3 := Lib.hid hU3
          have HXS2 := Lib.hid hxs2
          have K5 := Lib.hid k5
          clear hxv hfp7 hU3 hxs2 hi5 hL5 k5 z5
          have hDD : ∀ b, (U3 b ∨ b = ib) → ¬ (b = bx2 ∨ Lfp bl bm xs2 b) := by
            rintro b hu (rfl | hd)
            · have := k6.size
              rcases hu with hu | hu
              · have := HU3.out b hu; omega
              · omega
            · rcases hu with hu | rfl
              · exact HF4.out b (HFP7.out b hd) hu
              · have h1 := HFP7.out b hd
                rw [← hxs] at h1
                have := HFP.out b h1
                have := kw.size
                have := k13'
                omega
          refine wpW_range (SI.all1 bx2 bl bm 100 xs2) rfl SI.enters (fun _ => rfl) (fun (pre : List (Ent ByteArray Int)) U W => AgOwn vb rb kb ob v key ys (fun b => b = vb ∨ b = rb ∨ b = kb ∨ b = ob ∨ b = ib) U W ∧ Box W ib (.int .i64 pre.length) ∧ U ib) (fun _ _ _ => False) (fun b => U3 b ∨ b = ib)
            (fun (pre : List (Ent ByteArray Int)) U W W' h k => ⟨h.1.kept k, h.2.1.kept k (fun e => e h.2.2), h.2.2⟩) (fun _ _ _ _ h _ => h) hDD ?_ ?_ hRd7 ?_ ⟨hi7, bi7, .inr rfl⟩ ?_ ?_ (fun _ _ _ _ h => h.elim)
          · rintro b (rfl | hd)
            · exact hbx2.lt
            · exact hL7.lt b hd
          · have := k7.size
            rintro b (hb | rfl)
            · have := HU3.out b hb; omega
            · omega
          · exact fun W W' h k => h.kept k (fun e => e (.inl rfl)) (fun b hb e => e (.inr hb))
          · intro l pre y rest U' W hitems hi hlt' hD' hRd' hl hlD hlW hUU
            have HUU := Lib.hid hUU
            have HLT := Lib.hid hlt'
            have HDD := Lib.hid hD'
            have hcase := HXV.out _ _ _ hitems
            have HIT := Lib.hid hitems
            clear hUU hlt' hD' hRd' hlD hitems hL7 hRd7 hi7 k6 k7 bi6 bi7 hDD hL4 kw
            simp only [List.zip_toArray, List.zip_cons_cons, List.zip_nil_left, List.foldl_toArray', List.foldl_cons, List.foldl_nil, List.setIfInBounds_toArray, List.set_cons_succ, List.set_cons_zero]
            gi_wp2_with (rw [Oper.semAt_eq _ _ _ (fun c h => by cases h)]; go_simp; try go_bits)
            refine ⟨trivial, ?_⟩
            intro W2 kl zl
            have ZL := Lib.hid zl
            clear zl
            have hkk : Kept (fun b => ¬ U' b) W W2 := kl.mono fun b _ e h => by subst e; exact hl h
            have hi2 := hi.1.kept hkk
            have hbi := hi.2.1.kept hkk (fun e => e hi.2.2)
            obtain ⟨o', ho, hrow, hoo⟩ := hi2.bo
            obtain ⟨oa, oc, rfl, hog, _⟩ := own_form hrow
            have hck := hi2.bk.cell
            have hcv := hi2.bv.cell
            have hco := ho.cell
            have hci := hbi.cell
            have hfi := hbi.frozen
            have hplen : (pre ++ [y]).length = pre.length + 1 := by simp
            have HPL := Lib.hid hplen
            clear hplen
            rw [HYL.out] at hco hog
            obtain ⟨p, hp⟩ : ∃ p, p = pre.length := ⟨_, rfl⟩
            rw [← hp] at hci hcase
            have HP := Lib.hid hp
            clear hp
            rcases hcase with ⟨hpM, hyk⟩ | ⟨hpM, hyk, hyv⟩
            · obtain ⟨g, rfl⟩ := hog (by omega)
              have hcell := own_cell (c := oc) (g := g) hrow (j := p) (u := .string y.k) (by rw [List.getElem?_map, hyk]; rfl)
              have hs := bytes_self y.k
              have hpne : ((p : Int) == (M : Int)) = false := by rw [beq_eq_false_iff_ne]; omega
              have HI2 := Lib.hid hi2
              have HBI := Lib.hid hbi
              clear hrow hoo hyk hi2 hbi hog
              gi_wp2_with (rw [Oper.semAt_eq _ _ _ (fun c h => by cases h)]; go_simp; try go_bits)
              have kall := Kept.one_set W2 ⟨ib, 0, none⟩ (.int .i64 (((p : Nat) : Int) + 1))
              have hend := round_plain kl hl HLT.out hlW (kall.mono (S' := U') (fun b _ e => by rw [e]; exact hi.2.2))
              refine ⟨hend.1, U', hend.2.1, hl, hend.2.2.2, HI2.out.change kall ?_, ?_, hi.2.2⟩
              · rintro b rfl _
                exact ⟨by simp, hibn⟩
              · have h := HBI.out.set (.int .i64 (((p : Nat) : Int) + 1))
                rw [show ((((pre ++ [y]).length : Nat)) : Int) = ((p : Nat) : Int) + 1 by rw [HPL.out]; have := HP.out; omega]
                exact h
            · rw [hpM] at hci
              simp only [hyk, hyv, vSI]
              have HI2 := Lib.hid hi2
              have HBI := Lib.hid hbi
              clear hrow hoo hi2 hbi hog hyk hyv
              gi_wp2_with (rw [Oper.semAt_eq _ _ _ (fun c h => by cases h)]; go_simp; try go_bits)
              have kall := Kept.one_set W2 ⟨ib, 0, none⟩ (.int .i64 (((M : Nat) : Int) + 1))
              have hend := round_plain kl hl HLT.out hlW (kall.mono (S' := U') (fun b _ e => by rw [e]; exact hi.2.2))
              refine ⟨hend.1, U', hend.2.1, hl, hend.2.2.2, HI2.out.change kall ?_, ?_, hi.2.2⟩
              · rintro b rfl _
                exact ⟨by simp, hibn⟩
              · have h := HBI.out.set (.int .i64 (((M : Nat) : Int) + 1))
                rw [show ((((pre ++ [y]).length : Nat)) : Int) = ((M : Nat) : Int) + 1 by rw [HPL.out]; have := HP.out; omega]
                exact h
          · intro dk2 U4 W8 hi kw8 hRd8 hdk2 hdkn2 hdkU2 hUU2 hUn2 hUlt2
            have hl2 : (xs2.length : Int) = (M : Int) + 1 := by rw [HXS2.out, HFI.out]; simp
            have hci := hi.2.1.cell
            obtain ⟨o', ho, hrow, _⟩ := hi.1.bo
            obtain ⟨oa, oc, rfl, _⟩ := own_form hrow
            have hco := ho.cell
            have hr := hi.1.br.cell
            have hfr := hi.1.br.frozen
            rw [HYL.out] at hco
            rw [hl2] at hci
            have hL8 := hRd8.2.2
            have HI := Lib.hid hi
            have HR8 := Lib.hid hRd8
            clear hi hRd8 hrow hRd7 hL7
            gi_wp2_with fail
            refine callsIn_WR.2 ((SI.len_any hL8).mono ?_)
            rintro e W9 ⟨rfl, rfl⟩
            rw [hl2]
            gi_wp2_with fail
            have hbr := HI.out.1.br
            have hdk8 : W8.heap[dk]? = some (.deferred (some [])) := by
              have hlt := (Array.getElem?_eq_some_iff.1 hdk).1
              have hnl : ¬ Lfp bl bm (l1 ++ x :: l2) dk := fun h => by
                rw [← hxs] at h
                have := (HFP.out dk h).2
                omega
              have hu3 : ¬ (U3 dk ∨ dk = ib) := by
                rintro (h | h)
                · exact hdkU h
                · omega
              have h5 := (K5.out.block dk hlt hnl).trans hdk
              have h6 := (k6.block dk (Array.getElem?_eq_some_iff.1 h5).1 (fun e => e)).trans h5
              have h7 := (k7.block dk (Array.getElem?_eq_some_iff.1 h6).1 (fun e => e)).trans h6
              exact (kw8.block dk (Array.getElem?_eq_some_iff.1 h7).1 hu3).trans h7
            have hrdk : rb < dk ∧ rb < dk2 := by have := k7.size; have := kw.size; omega
            have hset : ∀ d, rb < d → (W8.setCell ⟨rb, 0, none⟩ (.bool true)).heap[d]? = W8.heap[d]? := fun d h => Below.heap_setCell _ _ _ _ (by simp; omega)
            refine leaves_marks [dk2, dk] _ ?_ ?_ ?_
            · have := (Array.getElem?_eq_some_iff.1 hdk).1
              have := k7.size
              have := k6.size
              simp
              omega
            · intro d hd
              simp only [List.mem_cons, List.not_mem_nil, or_false] at hd
              rcases hd with rfl | rfl
              · exact (hset _ hrdk.2).trans hdk2
              · exact (hset _ hrdk.1).trans hdk8
            · intro W' kd
              have hb := (hbr.set (.bool true)).kept kd (by simp; omega)
              refine ⟨_, results_box rfl Try.underlying4 rfl rfl hb, rfl, ?_⟩
              have hsz := kw.size
              have hsz7 := k7.size
              have hG : ∀ b, b < w.heap.size → b < kb ∧ ¬ Lfp bl bm (l1 ++ x :: l2) b ∧ b ≠ ob ∧ b ≠ vb ∧ b ≠ rb ∧ b ≠ ib ∧ ¬ (W0.heap.size ≤ b) ∧ b ≠ dk ∧ b ≠ dk2 := by
                intro b hb
                refine ⟨by omega, fun h => ?_, by omega, by omega, by omega, by omega, by omega, by omega, by omega⟩
                rw [← hxs] at h
                have := (HFP.out b h).1
                omega
              have hUb : ∀ b, b < w.heap.size → ¬ U3 b := by
                intro b hb hu
                have := hG b hb
                rcases HUN.out b hu with h | h
                · omega
                · omega
              have kx0 : Kept (fun _ => False) w wr := kW0.trans hkr (fun b hb e => (hG b hb).2.2.2.2.2.2.1 e)
              have kx1 : Kept (fun _ => False) w w3 := (kx0.trans kw1 (fun _ _ e => e)).trans k13 (fun _ _ e => e)
              have kx2 : Kept (fun _ => False) w W3 := kx1.trans kw (fun b hb e => by have := hG b hb; omega)
              have kx3 : Kept (fun _ => False) w W7 := ((kx2.trans K5.out (fun b hb e => (hG b hb).2.1 e)).trans k6 (fun _ _ e => e)).trans k7 (fun _ _ e => e)
              have kx4 : Kept (fun _ => False) w W8 := kx3.trans kw8 (fun b hb e => e.elim (hUb b hb) (hG b hb).2.2.2.2.2.1)
              exact (kx4.setCell _ _ (fun hb => (hG _ hb).2.2.2.2.1 rfl)).trans kd (fun b hb e => by
                simp only [List.mem_cons, List.not_mem_nil, or_false] at e
                have := hG b hb
                omega)
end Go.Proofs.Yteiilokhkpaoeaa
