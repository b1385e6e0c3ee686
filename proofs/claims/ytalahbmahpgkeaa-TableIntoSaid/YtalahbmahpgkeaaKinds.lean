/- Lists and maps of a table: use, peek, add, drop, size. -/
import Derived.Test.YtalahbmahpgkeaaTbl
import Derived.Test.YtalahbmahpgkeaaPlain
import Derived.WalkLawsBesides
import Derived.BigRegion
import Derived.Deep.QuietTactic
import Derived.BigQuiet
import Derived.Lib.Hide
namespace Go.Proofs.Ytalahbmahpgkeaa
set_option linter.unusedVariables false
set_option linter.unusedSimpArgs false
open Go.RowKit Go.MapKept

section
variable {W : World} {bl bm : Nat} {mx : Int} {ls : List (Ent ByteArray Nat)} {k : ByteArray}
theorem rec_use (hL : SE.L W bl bm mx ls) : Calls Try.prog 104 #[.agg #[.pointer (some ⟨bl, 0, none⟩)], .string k] W fun e w' => e = .returned (SE.vv (lookE k ls)) ∧ SE.L w' bl bm mx (useE k ls) ∧ Kept (Lfp bl bm ls) W w' := by
  have k0 := Kept.one_alloc W (.cells #[.pointer (some ⟨bl, 0, none⟩)] 82)
  have h0 := hL.kept k0 (fun _ _ e => e)
  have K0 := Lib.hid k0
  clear k0 hL
  go_enter Try.func104, Try.ntmps104
  go_wp2_with fail
  refine (SE.get_any (k := k) h0).mono ?_
  rintro e w1 ⟨rfl, h1, k1, _⟩
  have HK := Lib.hid (show Kept (Lfp bl bm ls) W w1 from (K0.out.mono (fun _ _ e => e.elim)).trans k1 (fun _ _ e => e))
  clear k1 h0
  go_wp2_with fail
  go_ret
  exact ⟨rfl, h1, HK.out⟩
theorem rec_peek (hL : SE.L W bl bm mx ls) : Calls Try.prog 102 #[.agg #[.pointer (some ⟨bl, 0, none⟩)], .string k] W fun e w' => e = .returned (SE.vv (lookE k ls)) ∧ Kept (fun _ => False) W w' := by
  have k0 := Kept.one_alloc W (.cells #[.pointer (some ⟨bl, 0, none⟩)] 82)
  have h0 := hL.kept k0 (fun _ _ e => e)
  have K0 := Lib.hid k0
  clear k0 hL
  go_enter Try.func102, Try.ntmps102
  go_wp2_with fail
  refine (SE.peek_any (k := k) h0).mono ?_
  rintro e w1 ⟨rfl, rfl⟩
  clear h0
  go_wp2_with fail
  go_ret
  exact ⟨rfl, K0.out⟩
theorem rec_size (hL : SE.L W bl bm mx ls) : Calls Try.prog 103 #[.agg #[.pointer (some ⟨bl, 0, none⟩)]] W fun e w' => e = .returned (.int .i64 ls.length) ∧ Kept (fun _ => False) W w' := by
  have k0 := Kept.one_alloc W (.cells #[.pointer (some ⟨bl, 0, none⟩)] 82)
  have h0 := hL.kept k0 (fun _ _ e => e)
  have K0 := Lib.hid k0
  clear k0 hL
  go_enter Try.func103, Try.ntmps103
  go_wp2_with fail
  refine (SE.len_any h0).mono ?_
  rintro e w1 ⟨rfl, rfl⟩
  clear h0
  go_wp2_with fail
  go_ret
  exact ⟨rfl, K0.out⟩
theorem rec_drop (hL : SE.L W bl bm mx ls) : Calls Try.prog 101 #[.agg #[.pointer (some ⟨bl, 0, none⟩)], .string k] W fun e w' => e = .returned (.int .i64 0) ∧ SE.L w' bl bm mx (dropE k ls) ∧ Kept (Lfp bl bm ls) W w' := by
  have k0 := Kept.one_alloc W (.cells #[.pointer (some ⟨bl, 0, none⟩)] 82)
  have h0 := hL.kept k0 (fun _ _ e => e)
  have K0 := Lib.hid k0
  clear k0 hL
  go_enter Try.func101, Try.ntmps101
  go_wp2_with fail
  refine (SE.drop_any (k := k) h0).mono ?_
  rintro e w1 ⟨rfl, h1, k1, _⟩
  have HK := Lib.hid (show Kept (Lfp bl bm ls) W w1 from (K0.out.mono (fun _ _ e => e.elim)).trans k1 (fun _ _ e => e))
  clear k1 h0
  go_wp2_with fail
  go_ret
  exact ⟨rfl, h1, HK.out⟩
set_option maxRecDepth 100000 in
/-- recent.add of an entry at block eb, whose key is k. -/
theorem rec_add (hL : SE.L W bl bm mx ls) (h1 : 1 ≤ mx) {eb : Nat} (hk : W.cell? ⟨eb, 0, none⟩ = some (.string k)) (hb : eb < W.heap.size) (n : Int) :
    Calls Try.prog 99 #[.agg #[.pointer (some ⟨bl, 0, none⟩)], .pointer (some ⟨eb, 0, none⟩), .int .i64 n] W fun e w' => e = .returned (.int .i64 0) ∧ (∃ nb, W.heap.size ≤ nb ∧ SE.L w' bl bm mx (putE mx nb k eb ls)) ∧ Kept (Lfp bl bm ls) W w' := by
  have k0 := Kept.one_alloc W (.cells #[.pointer (some ⟨bl, 0, none⟩)] 82)
  have h0 := hL.kept k0 (fun _ _ e => e)
  have hk0 : (W.alloc (.cells #[.pointer (some ⟨bl, 0, none⟩)] 82)).cell? ⟨eb, 0, none⟩ = some (.string k) := (k0.cell (p := ⟨eb, 0, none⟩) hb (fun e => e)).trans hk
  have K0 := Lib.hid k0
  clear k0 hL hk
  go_enter Try.func99, Try.ntmps99
  go_wp2_with fail
  generalize hw0 : W.alloc (.cells #[.pointer (some ⟨bl, 0, none⟩)] 82) = W0 at *
  have hc0 : W0.cell? ⟨W.heap.size, 0, none⟩ = some (.pointer (some ⟨bl, 0, none⟩)) := by rw [← hw0]; simp
  have hz0 : W.heap.size ≤ W0.heap.size := by rw [← hw0]; simp
  clear hw0
  obtain ⟨sb, hsb⟩ : ∃ sb, W.heap.size = sb := ⟨_, rfl⟩
  rw [hsb] at hc0 hz0 ⊢
  have HSB := Lib.hid hsb
  clear hsb
  refine wp_of_WR (n := 0) ?_
  refine wpW_region_tail 7 (by kernel_rfl) (by kernel_rfl) ?_
  obtain ⟨w5, hw5, t5⟩ : ∃ w5, w5 = ({ W0 with drawn := W0.drawn + 1 } : World) ∧ Twin w5 W0 := ⟨_, rfl, rfl, rfl, rfl, rfl⟩
  rw [← hw5]
  simp only [List.take_succ_cons, List.take_zero, List.drop_succ_cons, List.drop_zero]
  have hc5 : w5.cell? ⟨sb, 0, none⟩ = some (.pointer (some ⟨bl, 0, none⟩)) := by obtain ⟨_, rfl⟩ := t5.eq; exact hc0
  have hk5 : w5.cell? ⟨eb, 0, none⟩ = some (.string k) := by obtain ⟨_, rfl⟩ := t5.eq; exact hk0
  have h5 := h0.twin t5
  have K5 := Lib.hid (K0.out.twin t5)
  have hz5 : sb ≤ w5.heap.size := by rw [t5.heap]; exact hz0
  clear hw5 t5 hc0 hk0 h0
  iterate 7 (with_reducible refine wpStill_want (by kernel_rfl) (fun K hK => ?_); go_simp; with_reducible refine hK _ ?_; clear hK K)
  refine wpStill_nil ?_
  gi_wp2_with fail
  refine callsIn_WR.2 ((SE.put_any (k := k) (v := eb) h5 h1).mono ?_)
  rintro e w6 ⟨rfl, h6, k6, z6⟩
  have HK := Lib.hid (show Kept (Lfp bl bm ls) W w6 from (K5.out.mono (fun _ _ e => e.elim)).trans k6 (fun _ _ e => e))
  have H6 := Lib.hid (show ∃ nb, W.heap.size ≤ nb ∧ SE.L w6 bl bm mx (putE mx nb k eb ls) from ⟨_, by rw [HSB.out]; exact hz5, h6⟩)
  clear h6 k6 z6 h5
  gi_wp2_with fail
  go_wp2_with fail
  go_ret
  exact ⟨rfl, H6.out, HK.out⟩
end

section
variable {W : World} {hm : Nat} {xs : List (Ent ByteArray Unit)} {k : ByteArray}
def hV (o : Option (Ent ByteArray Unit)) : Value := match o with | none => .pointer none | some x => .pointer (some ⟨x.b, 0, none⟩)
theorem hzero (w : World) : (zeroValue 36).run Try.prog w = .ok (.pointer none) w := by kernel_rfl
theorem hash_look (h : Tab strK W hm xs) (hn : (xs.map (·.k)).Nodup) (w : World) (hw : w = W) : (Instr.lookup 74 (.map (some hm)) (.string k) false).run Try.prog w = .ok (hV (lookE k xs)) w := by
  subst hw
  rcases split_key hn k with ⟨e1, e2, _⟩ | ⟨l1, x, l2, e, rfl, e2, _⟩
  · rw [e1]
    exact run_lookup_miss (P := Try.prog) (K := strK) (t := 74) Try.underlying74 Try.underlying9 h e2 false (hzero w)
  · rw [e2]
    have := run_lookup_hit (P := Try.prog) (K := strK) (t := 74) Try.underlying74 Try.underlying9 h hn (x := x) (by rw [e]; simp) false
    exact this
theorem hash_use (h : Tab strK W hm xs) (hn : (xs.map (·.k)).Nodup) : Calls Try.prog 67 #[.map (some hm), .string k] W fun e w' => e = .returned (hV (lookE k xs)) ∧ W = w' := by
  have hlk := hash_look (k := k) h hn W rfl
  clear h hn
  go_enter Try.func67, Try.ntmps67
  go_wp2_with fail
  go_ret
  exact ⟨rfl, rfl⟩
theorem hash_peek (h : Tab strK W hm xs) (hn : (xs.map (·.k)).Nodup) : Calls Try.prog 65 #[.map (some hm), .string k] W fun e w' => e = .returned (hV (lookE k xs)) ∧ W = w' := by
  have hlk := hash_look (k := k) h hn W rfl
  clear h hn
  go_enter Try.func65, Try.ntmps65
  go_wp2_with fail
  go_ret
  exact ⟨rfl, rfl⟩
theorem hash_size (h : Tab strK W hm xs) : Calls Try.prog 66 #[.map (some hm)] W fun e w' => e = .returned (.int .i64 xs.length) ∧ W = w' := by
  have hlen := run_len (ty := 3) (P := Try.prog) (t := 74) Try.underlying74 h
  clear h
  go_enter Try.func66, Try.ntmps66
  go_wp2_with fail
  go_ret
  exact ⟨rfl, rfl⟩
theorem hash_drop_hit {l1 l2 : List (Ent ByteArray Unit)} {x : Ent ByteArray Unit} (h : Tab strK W hm (l1 ++ x :: l2)) (hn : ((l1 ++ x :: l2).map (·.k)).Nodup) :
    Calls Try.prog 64 #[.map (some hm), .string x.k] W fun e w' => e = .returned (.int .i64 0) ∧ Tab strK w' hm (l1 ++ l2) ∧ Kept (fun b => b = hm) W w' := by
  obtain ⟨w2, hdel, ht2, k2, z2⟩ := run_delete_hit (P := Try.prog) (t := 74) (ty := 0) Try.underlying74 Try.underlying9 l1 l2 x h hn 9
  simp only [strK] at hdel
  have HT := Lib.hid ht2
  have HK := Lib.hid k2
  clear z2 h hn ht2 k2
  go_enter Try.func64, Try.ntmps64
  go_wp2_with fail
  go_ret
  exact ⟨rfl, HT.out, HK.out⟩
theorem hash_add_full (h : Tab strK W hm xs) {n : Int} (hf : n ≤ xs.length) (eb : Nat) : Calls Try.prog 62 #[.map (some hm), .pointer (some ⟨eb, 0, none⟩), .int .i64 n] W fun e w' => e = .returned (.int .i64 5) ∧ W = w' := by
  have hlen := run_len (ty := 3) (P := Try.prog) (t := 74) Try.underlying74 h
  clear h
  go_enter Try.func62, Try.ntmps62
  go_wp2_with fail
  go_ret
  exact ⟨rfl, rfl⟩
theorem hash_add_room (h : Tab strK W hm xs) {n : Int} (hf : ¬ n ≤ xs.length) {eb : Nat} (hk : W.cell? ⟨eb, 0, none⟩ = some (.string k)) (hnew : ∀ y ∈ xs, y.k ≠ k) :
    Calls Try.prog 62 #[.map (some hm), .pointer (some ⟨eb, 0, none⟩), .int .i64 n] W fun e w' => e = .returned (.int .i64 0) ∧ Tab strK w' hm (xs ++ [⟨eb, k, ()⟩]) ∧ Kept (fun b => b = hm) W w' := by
  have hlen := run_len (ty := 3) (P := Try.prog) (t := 74) Try.underlying74 h
  obtain ⟨w2, hup, ht2, k2, z2⟩ := run_update_new (P := Try.prog) (t := 74) Try.underlying74 Try.underlying9 h (x := ⟨eb, k, ()⟩) hnew
  simp only [strK, ptr] at hup
  have HT := Lib.hid ht2
  have HK := Lib.hid k2
  clear z2 h ht2 k2 hnew
  go_enter Try.func62, Try.ntmps62
  go_wp2_with fail
  go_ret
  exact ⟨rfl, HT.out, HK.out⟩
end
end Go.Proofs.Ytalahbmahpgkeaa
