/- The contracts of lru.List[string,*swingbridge/table.Entry]: each call, by what it makes of the list in memory. -/
import Derived.Test.YtdkcnigghcbnpaaGreatProg
import Derived.Test.YtdkcnigghcbnpaaGreatGenB
import Derived.WalkLawsBesides
import Derived.BigRegion
import Derived.Deep.QuietTactic
import Derived.BigQuiet
import Derived.Lib.Hide
namespace Go.Proofs.YtdkcnigghcbnpaaGreat
open Go.RowKit Go.MapKept

set_option maxHeartbeats 400000 in
theorem SE.out_raw (b o bp op bn on : Nat) (vp vn : Value) (w : World)
   (h2 : w.cell? ⟨b, o + 2, none⟩ = some (.pointer (some ⟨bp, op, none⟩)))
   (h3 : w.cell? ⟨b, o + 3, none⟩ = some (.pointer (some ⟨bn, on, none⟩)))
   (hp : w.cell? ⟨bp, op + 3, none⟩ = some vp) 
   (fp : w.frozen? ⟨bp, op + 3, none⟩ = false) (fn : w.frozen? ⟨bn, on + 2, none⟩ = false) 
   (hne : ∀ v, (w.setCell ⟨bp, op + 3, none⟩ v).cell? ⟨bn, on + 2, none⟩ = some vn) :
    Calls Tryz.prog 198 #[.pointer (some ⟨b, o, none⟩)] w fun e w' => e = .returned (.tuple #[]) ∧ Twin w' ((w.setCell ⟨bp, op + 3, none⟩ (.pointer (some ⟨bn, on, none⟩))).setCell ⟨bn, on + 2, none⟩ (.pointer (some ⟨bp, op, none⟩))) := by
  go_enter Tryz.func198, Tryz.ntmps198
  go_wp2
  go_region
  all_goals (go_end0; exact ⟨rfl, rfl, rfl, rfl, rfl⟩)

theorem SE.out_any (s x : Spot) (l1 l2 : List Spot) (w : World) (hL : Linked w s (l1 ++ x :: l2)) (hd : Laid w (s :: (l1 ++ x :: l2))) :
    Calls Tryz.prog 198 #[ptr x] w fun e w' => e = .returned (.tuple #[]) ∧ Moved (s :: (l1 ++ x :: l2)) w w' ∧ Linked w' s (l1 ++ l2) := by
  obtain ⟨h2, h3⟩ := linked_at hL
  obtain ⟨m1, m2⟩ := ends_mem (s := s) (l1 := l1) (l2 := l2) x
  obtain ⟨n1, hn1, r1⟩ := hd.row _ m1
  obtain ⟨n2, hn2, r2⟩ := hd.row _ m2
  obtain ⟨vp, hp⟩ := r1.some (o := (ahead s l1).2 + 3) (by omega)
  obtain ⟨vn, hn⟩ := r2.some (o := (behind s l2).2 + 2) (by omega)
  refine (SE.out_raw x.1 x.2 _ _ _ _ vp vn w h2 h3 hp (r1.frozen _) (r2.frozen _) fun v => (pv_set_nx hd m1 m2 v).trans hn).mono ?_
  rintro e w' ⟨rfl, t⟩
  refine ⟨rfl, ((Moved.set_nx m1 w _).trans (Moved.set_pv m2 _ _)).twin t, ?_⟩
  exact (linked_out hL hd).twin t

set_option maxHeartbeats 400000 in
theorem SE.last_raw (bl bx ox bp op : Nat) (v2 v3 vp vs : Value) (w : World)
   (h0 : w.cell? ⟨bl, 3, none⟩ = some (.pointer (some ⟨bp, op, none⟩)))
   (hx2 : w.cell? ⟨bx, ox + 2, none⟩ = some v2) (hx3 : w.cell? ⟨bx, ox + 3, none⟩ = some v3)
   (f2 : w.frozen? ⟨bx, ox + 2, none⟩ = false) (f3 : w.frozen? ⟨bx, ox + 3, none⟩ = false)
   (fp : w.frozen? ⟨bp, op + 3, none⟩ = false) (fs : w.frozen? ⟨bl, 3, none⟩ = false) 
   (hp : ∀ u u', ((w.setCell ⟨bx, ox + 2, none⟩ u).setCell ⟨bx, ox + 3, none⟩ u').cell? ⟨bp, op + 3, none⟩ = some vp)
   (hs : ∀ u u' u'', (((w.setCell ⟨bx, ox + 2, none⟩ u).setCell ⟨bx, ox + 3, none⟩ u').setCell ⟨bp, op + 3, none⟩ u'').cell? ⟨bl, 3, none⟩ = some vs) :
    Calls Tryz.prog 195 #[.pointer (some ⟨bl, 0, none⟩), .pointer (some ⟨bx, ox, none⟩)] w fun e w' => e = .returned (.tuple #[]) ∧ Twin w' ((((w.setCell ⟨bx, ox + 2, none⟩ (.pointer (some ⟨bp, op, none⟩))).setCell ⟨bx, ox + 3, none⟩ (.pointer (some ⟨bl, 1, none⟩))).setCell ⟨bp, op + 3, none⟩ (.pointer (some ⟨bx, ox, none⟩))).setCell ⟨bl, 3, none⟩ (.pointer (some ⟨bx, ox, none⟩))) := by
  go_enter Tryz.func195, Tryz.ntmps195
  go_wp2
  go_region
  all_goals (go_wp2; go_end0; exact ⟨rfl, rfl, rfl, rfl, rfl⟩)

theorem SE.last_any (bl : Nat) (x : Spot) (l : List Spot) (w : World) (hL : Linked w (bl, 1) l) (hd : Laid w ((bl, 1) :: (l ++ [x]))) :
    Calls Tryz.prog 195 #[ptr (bl, 0), ptr x] w fun e w' => e = .returned (.tuple #[]) ∧ Moved ((bl, 1) :: (l ++ [x])) w w' ∧ Linked w' (bl, 1) (l ++ [x]) := by
  obtain ⟨h0, _⟩ := linked_ends hL
  have hp' : ahead (bl, 1) l ∈ (bl, 1) :: (l ++ [x]) := by have := ahead_mem (bl, 1) l; grind
  have hx' : x ∈ (bl, 1) :: (l ++ [x]) := by simp
  have hs' : (bl, 1) ∈ (bl, 1) :: (l ++ [x]) := by simp
  obtain ⟨n1, hn1, r1⟩ := hd.row _ hp'
  obtain ⟨n2, hn2, r2⟩ := hd.row _ hx'
  obtain ⟨n3, hn3, r3⟩ := hd.row _ hs'
  obtain ⟨v2, h2⟩ := r2.some (o := x.2 + 2) (by omega)
  obtain ⟨v3, h3⟩ := r2.some (o := x.2 + 3) (by omega)
  obtain ⟨vp, hp⟩ := r1.some (o := (ahead (bl, 1) l).2 + 3) (by omega)
  have hxl : ∀ a ∈ (bl, 1) :: l, a ≠ x := by
    have := hd.spots
    intro a ha e
    subst e
    grind
  have nep := hxl _ (ahead_mem (bl, 1) l)
  have nes := hxl (bl, 1) (by simp)
  have bp : (ahead (bl, 1) l).1 ≠ x.1 := fun e => nep (hd.one hp' hx' e)
  have bs : bl ≠ x.1 := fun e => nes (hd.one hs' hx' e)
  have q1 : ∀ u u', ((w.setCell ⟨x.1, x.2 + 2, none⟩ u).setCell ⟨x.1, x.2 + 3, none⟩ u').cell? ⟨(ahead (bl, 1) l).1, (ahead (bl, 1) l).2 + 3, none⟩ = some vp := by
    intro u u'
    rw [cell_set_other _ (fun e => bp e.1.symm), cell_set_other _ (fun e => bp e.1.symm)]
    exact hp
  have q2 : ∀ u u' u'', (((w.setCell ⟨x.1, x.2 + 2, none⟩ u).setCell ⟨x.1, x.2 + 3, none⟩ u').setCell ⟨(ahead (bl, 1) l).1, (ahead (bl, 1) l).2 + 3, none⟩ u'').cell? ⟨bl, 3, none⟩ = some (ptr (ahead (bl, 1) l)) := by
    intro u u' u''
    have q3 : ¬ ((ahead (bl, 1) l).1 = bl ∧ (ahead (bl, 1) l).2 + 3 = 3) := by
      intro e
      have := hd.one hp' hs' e.1
      have := congrArg Prod.snd this
      simp only at this
      omega
    rw [cell_set_other _ q3, cell_set_other _ (fun e => bs e.1.symm), cell_set_other _ (fun e => bs e.1.symm)]
    exact h0
  have hfin : ∀ w', Twin w' ((((w.setCell ⟨x.1, x.2 + 2, none⟩ (ptr (ahead (bl, 1) l))).setCell ⟨x.1, x.2 + 3, none⟩ (ptr (bl, 1))).setCell ⟨(ahead (bl, 1) l).1, (ahead (bl, 1) l).2 + 3, none⟩ (ptr x)).setCell ⟨bl, 3, none⟩ (ptr x)) → Moved ((bl, 1) :: (l ++ [x])) w w' ∧ Linked w' (bl, 1) (l ++ [x]) := by
    intro w' t
    refine ⟨((((Moved.set_pv hx' w _).trans (Moved.set_nx hx' _ _)).trans (Moved.set_nx hp' _ _)).trans (Moved.set_pv hs' _ _)).twin t, ?_⟩
    have q := linked_last hL hd
    simp only [Nat.reduceAdd] at q
    exact q.twin t
  have h0' : w.cell? ⟨bl, 3, none⟩ = some (ptr (ahead (bl, 1) l)) := by
    unfold pv at h0
    exact h0
  have f3 : w.frozen? ⟨bl, 3, none⟩ = false := r3.frozen 3
  have c := SE.last_raw bl x.1 x.2 (ahead (bl, 1) l).1 (ahead (bl, 1) l).2 v2 v3 vp (ptr (ahead (bl, 1) l)) w h0' h2 h3 (r2.frozen _) (r2.frozen _) (r1.frozen _) f3 q1 q2
  refine Calls.mono c ?_
  rintro e w' ⟨rfl, t⟩
  exact ⟨rfl, hfin w' t⟩

def vSE (b : Nat) : Value := .pointer (some ⟨b, 0, none⟩)

section
variable {w : World} {bl bm : Nat} {most : Int} {xs l1 l2 : List (Ent ByteArray Nat)} {x : Ent ByteArray Nat} {k : ByteArray} {v : Nat}
abbrev SE.L (w : World) (bl bm : Nat) (most : Int) (xs : List (Ent ByteArray Nat)) : Prop := Lru strK vSE (.string ⟨#[]⟩) w bl bm most xs

theorem SE.zero (w : World) : (zeroValue 194).run Tryz.prog w = .ok (.pointer none) w := by kernel_rfl

set_option maxHeartbeats 400000 in
theorem SE.use_hit (h : SE.L w bl bm most (l1 ++ x :: l2)) :
    Calls Tryz.prog 194 #[ptr (bl, 0), .string x.k] w fun e w' => e = .returned (ptr (x.b, 0)) ∧ SE.L w' bl bm most (l1 ++ l2 ++ [x]) ∧ Kept (Lfp bl bm (l1 ++ x :: l2)) w w' ∧ w'.heap.size = w.heap.size := by
  have hl := h.links
  have hlk := run_lookup_hit (P := Tryz.prog) (t := 193) Tryz.underlying193 Tryz.underlying9 h.tab h.keys (x := x) (by simp) false
  simp only [strK] at hlk
  unfold ptr at hlk ⊢
  go_enter Tryz.func194, Tryz.ntmps194
  go_wp2_with fail
  have hsp : spots (l1 ++ x :: l2) = spots l1 ++ (x.b, 0) :: spots l2 := by simp [spots]
  have hL := h.linked
  have hd := h.laid
  rw [hsp] at hL hd
  refine (SE.out_any (bl, 1) (x.b, 0) (spots l1) (spots l2) _ hL hd).mono ?_
  rintro e w1 ⟨rfl, m1, l1'⟩
  have hls : Linked w1 (bl, 1) (spots l1 ++ spots l2) ∧ Laid w1 ((bl, 1) :: (spots l1 ++ spots l2 ++ [(x.b, 0)])) := by
    refine ⟨l1', ?_, fun a ha => ?_⟩
    · have := hd.nodup
      grind
    · obtain ⟨n, hn, hr⟩ := hd.row a (by grind)
      exact ⟨n, hn, m1.row _ _ hr⟩
  go_wp2_with fail
  refine (SE.last_any bl (x.b, 0) _ _ hls.1 hls.2).mono ?_
  rintro e w2 ⟨rfl, m2, l2'⟩
  have m : Moved ((bl, 1) :: spots (l1 ++ x :: l2)) w w2 := by
    rw [hsp]
    exact m1.trans (m2.sub (by grind))
  have hp : (l1 ++ l2 ++ [x]).Perm (l1 ++ x :: l2) := by
    rw [List.append_assoc]
    exact (List.Perm.append_left _ (List.perm_append_singleton x l2))
  have hfin : SE.L w2 bl bm most (l1 ++ l2 ++ [x]) := h.moved m hp (by simpa [spots] using l2')
  go_wp2_with fail
  go_ret
  exact ⟨rfl, hfin, moved_kept m, m.size⟩

set_option maxHeartbeats 400000 in
theorem SE.use_miss (h : SE.L w bl bm most xs) (hk : ∀ x ∈ xs, x.k ≠ k) :
    Calls Tryz.prog 194 #[ptr (bl, 0), .string k] w fun e w' => e = .returned (.pointer none) ∧ w = w' := by
  have hl := h.links
  have hlk := run_lookup_miss (P := Tryz.prog) (t := 193) Tryz.underlying193 Tryz.underlying9 h.tab hk false (SE.zero w)
  simp only [strK] at hlk
  unfold ptr
  clear h hk
  go_enter Tryz.func194, Tryz.ntmps194
  go_wp2
  go_ret
  exact ⟨rfl, rfl⟩

theorem SE.value_none (w : World) : Calls Tryz.prog 199 #[.pointer none] w fun e w' => e = .returned (.tuple #[.pointer none, .bool false]) ∧ w = w' := by
  go_enter Tryz.func199, Tryz.ntmps199
  go_wp2
  go_ret2
  exact ⟨rfl, rfl⟩

theorem SE.value_some (w : World) (b : Nat) (u : Value) (hc : w.cell? ⟨b, 1, none⟩ = some u) : Calls Tryz.prog 199 #[.pointer (some ⟨b, 0, none⟩)] w fun e w' => e = .returned (.tuple #[u, .bool true]) ∧ w = w' := by
  go_enter Tryz.func199, Tryz.ntmps199
  go_wp2
  go_ret2
  exact ⟨rfl, rfl⟩

theorem SE.len_any (h : SE.L w bl bm most xs) : Calls Tryz.prog 181 #[ptr (bl, 0)] w fun e w' => e = .returned (.int .i64 xs.length) ∧ w = w' := by
  have hl := h.links
  have hlen := run_len (ty := 3) (P := Tryz.prog) (t := 193) Tryz.underlying193 h.tab
  unfold ptr
  clear h
  go_enter Tryz.func181, Tryz.ntmps181
  go_wp2
  go_ret
  exact ⟨rfl, rfl⟩

theorem SE.peek_hit (h : SE.L w bl bm most xs) (hx : x ∈ xs) :
    Calls Tryz.prog 192 #[ptr (bl, 0), .string x.k] w fun e w' => e = .returned (.tuple #[vSE x.v, .bool true]) ∧ w = w' := by
  have hl := h.links
  have hlk := run_lookup_hit (P := Tryz.prog) (t := 193) Tryz.underlying193 Tryz.underlying9 h.tab h.keys hx false
  have hv := h.val x hx
  simp only [strK] at hlk
  unfold ptr at hlk ⊢
  clear h
  go_enter Tryz.func192, Tryz.ntmps192
  go_wp2_with (go_at_call 199; refine (SE.value_some _ _ _ hv).mono ?_; rintro e w' ⟨rfl, rfl⟩)
  go_ret2
  exact ⟨rfl, rfl⟩

theorem SE.peek_miss (h : SE.L w bl bm most xs) (hk : ∀ x ∈ xs, x.k ≠ k) :
    Calls Tryz.prog 192 #[ptr (bl, 0), .string k] w fun e w' => e = .returned (.tuple #[.pointer none, .bool false]) ∧ w = w' := by
  have hl := h.links
  have hlk := run_lookup_miss (P := Tryz.prog) (t := 193) Tryz.underlying193 Tryz.underlying9 h.tab hk false (SE.zero w)
  simp only [strK] at hlk
  unfold ptr
  clear h hk
  go_enter Tryz.func192, Tryz.ntmps192
  go_wp2_with (go_at_call 199; refine (SE.value_none _).mono ?_; rintro e w' ⟨rfl, rfl⟩)
  go_ret2
  exact ⟨rfl, rfl⟩

theorem SE.get_hit (h : SE.L w bl bm most (l1 ++ x :: l2)) :
    Calls Tryz.prog 193 #[ptr (bl, 0), .string x.k] w fun e w' => e = .returned (.tuple #[vSE x.v, .bool true]) ∧ SE.L w' bl bm most (l1 ++ l2 ++ [x]) ∧ Kept (Lfp bl bm (l1 ++ x :: l2)) w w' ∧ w'.heap.size = w.heap.size := by
  go_enter Tryz.func193, Tryz.ntmps193
  go_wp2_with fail
  refine (SE.use_hit h).mono ?_
  rintro e w1 ⟨rfl, h1, k1, z1⟩
  have hv := h1.val x (by simp)
  unfold ptr
  go_wp2_with fail
  refine (SE.value_some _ _ _ hv).mono ?_
  rintro e w' ⟨rfl, rfl⟩
  go_wp2_with fail
  go_ret2
  exact ⟨rfl, h1, k1, z1⟩

theorem SE.get_miss (h : SE.L w bl bm most xs) (hk : ∀ x ∈ xs, x.k ≠ k) :
    Calls Tryz.prog 193 #[ptr (bl, 0), .string k] w fun e w' => e = .returned (.tuple #[.pointer none, .bool false]) ∧ w = w' := by
  go_enter Tryz.func193, Tryz.ntmps193
  go_wp2_with fail
  refine (SE.use_miss h hk).mono ?_
  rintro e w1 ⟨rfl, rfl⟩
  go_wp2_with fail
  refine (SE.value_none _).mono ?_
  rintro e w' ⟨rfl, rfl⟩
  go_wp2_with fail
  go_ret2
  exact ⟨rfl, rfl⟩


set_option maxHeartbeats 400000 in
theorem SE.oldest_nil (h : SE.L w bl bm most []) :
    Calls Tryz.prog 196 #[ptr (bl, 0)] w fun e w' => e = .returned (.tuple #[.string ⟨#[]⟩, .bool false]) ∧ Twin w' w := by
  have hl := h.links
  have hn := h.first
  have hz := h.zk
  have hlen := fun n => run_len (ty := 3) (P := Tryz.prog) (t := 193) (w := w.drewN n) (bm := bm) Tryz.underlying193 h.tab
  simp only [nx, spots, List.map_nil, behind, List.nil_append, List.head_cons, Nat.reduceAdd, List.length_nil] at hn hlen
  unfold ptr at hn ⊢
  clear h
  go_enter Tryz.func196, Tryz.ntmps196
  go_wp2
  go_quiet (fail)
  go_wp2
  go_ret2
  exact ⟨rfl, rfl, rfl, rfl, rfl⟩

set_option maxHeartbeats 400000 in
theorem SE.oldest_cons (h : SE.L w bl bm most (x :: xs)) :
    Calls Tryz.prog 196 #[ptr (bl, 0)] w fun e w' => e = .returned (.tuple #[.string x.k, .bool true]) ∧ Twin w' w := by
  have hl := h.links
  have hn := h.first
  have hz := h.key x (by simp)
  have hlen := fun n => run_len (ty := 3) (P := Tryz.prog) (t := 193) (w := w.drewN n) (bm := bm) Tryz.underlying193 h.tab
  simp only [nx, spots, List.map_cons, behind, List.cons_append, List.head_cons, Nat.reduceAdd, List.length_cons, strK] at hn hlen hz
  unfold ptr at hn ⊢
  clear h
  have hd : decide ((0 : Int) < ((xs.length + 1 : Nat) : Int)) = true := by simp
  go_enter Tryz.func196, Tryz.ntmps196
  go_wp2
  go_quiet (fail)
  go_wp2
  go_ret2
  exact ⟨by simp, rfl, rfl, rfl, rfl⟩

set_option maxHeartbeats 400000 in
theorem SE.drop_miss (h : SE.L w bl bm most xs) (hk : ∀ x ∈ xs, x.k ≠ k) :
    Calls Tryz.prog 191 #[ptr (bl, 0), .string k] w fun e w' => e = .returned (.bool false) ∧ w = w' := by
  have hl := h.links
  have hlk := run_lookup_miss (P := Tryz.prog) (t := 193) Tryz.underlying193 Tryz.underlying9 h.tab hk true (SE.zero w)
  simp only [strK, if_true] at hlk
  unfold ptr
  clear h hk
  go_enter Tryz.func191, Tryz.ntmps191
  go_wp2
  go_ret
  exact ⟨rfl, rfl⟩

set_option maxHeartbeats 400000 in
theorem SE.drop_hit (h : SE.L w bl bm most (l1 ++ x :: l2)) :
    Calls Tryz.prog 191 #[ptr (bl, 0), .string x.k] w fun e w' => e = .returned (.bool true) ∧ SE.L w' bl bm most (l1 ++ l2) ∧ Kept (Lfp bl bm (l1 ++ x :: l2)) w w' ∧ w'.heap.size = w.heap.size := by
  have hl := h.links
  have hlk := run_lookup_hit (P := Tryz.prog) (t := 193) Tryz.underlying193 Tryz.underlying9 h.tab h.keys (x := x) (by simp) true
  simp only [strK, if_true] at hlk
  unfold ptr at hlk ⊢
  go_enter Tryz.func191, Tryz.ntmps191
  go_wp2_with fail
  have hsp : spots (l1 ++ x :: l2) = spots l1 ++ (x.b, 0) :: spots l2 := by simp [spots]
  have hL := h.linked
  have hd := h.laid
  rw [hsp] at hL hd
  refine (SE.out_any (bl, 1) (x.b, 0) (spots l1) (spots l2) _ hL hd).mono ?_
  rintro e w1 ⟨rfl, m1, l1'⟩
  rw [← hsp] at m1
  have l1'' : Linked w1 (bl, 1) (spots (l1 ++ l2)) := by simpa [spots] using l1'
  have hlm : bm ≠ bl ∧ ∀ y ∈ l1 ++ x :: l2, y.b ≠ bm := by
    have := h.nodup
    refine ⟨by grind, fun y hy e => ?_⟩
    have : bm ∈ (l1 ++ x :: l2).map (·.b) := List.mem_map.2 ⟨y, hy, e⟩
    grind
  have hl1 : w1.cell? ⟨bl, 5, none⟩ = some (.map (some bm)) := by
    refine (m1.cell bl 5 fun a ha e => ?_).trans h.links
    rcases List.mem_cons.1 ha with rfl | ha
    · simp
    · obtain ⟨y, hy, rfl⟩ := List.mem_map.1 ha
      have := h.nodup
      have : bl ∈ (l1 ++ x :: l2).map (·.b) := List.mem_map.2 ⟨y, hy, e⟩
      grind
  have ht1 : Tab strK w1 bm (l1 ++ x :: l2) := by
    refine h.tab.kept m1.kept fun hb => ?_
    obtain ⟨a, ha, e⟩ := List.mem_map.1 hb
    rcases List.mem_cons.1 ha with rfl | ha
    · exact hlm.1 e.symm
    · obtain ⟨y, hy, rfl⟩ := List.mem_map.1 ha
      exact hlm.2 y hy e
  obtain ⟨w2, hdel, ht2, k2, z2⟩ := run_delete_hit (P := Tryz.prog) (t := 193) (ty := 0) Tryz.underlying193 Tryz.underlying9 l1 l2 x ht1 h.keys 9
  have hfin : SE.L w2 bl bm most (l1 ++ l2) := h.dropped m1 l1'' ht2 k2
  have hkf : Kept (Lfp bl bm (l1 ++ x :: l2)) w w2 := (moved_kept m1).trans k2 (fun k _ e => .inr (.inl e))
  have hz := m1.size
  simp only [strK] at hdel
  clear hsp hL hd m1 l1' l1'' hlm ht1 ht2 k2 hlk hl
  have HZ := Lib.hid (z2.trans hz)
  clear hz z2
  go_wp2_with fail
  go_ret
  exact ⟨rfl, hfin, hkf, HZ.out⟩

theorem SE.empty : (ByteArray.mk #[]) = ⟨#[]⟩ := rfl

set_option maxHeartbeats 400000 in
theorem SE.put_hit (h : SE.L w bl bm most (l1 ++ x :: l2)) :
    Calls Tryz.prog 188 #[ptr (bl, 0), .string x.k, .pointer (some ⟨v, 0, none⟩)] w fun e w' => e = .returned (.tuple #[.string ⟨#[]⟩, .bool false]) ∧ SE.L w' bl bm most (l1 ++ l2 ++ [{ x with v := v }]) ∧ Kept (Lfp bl bm (l1 ++ x :: l2)) w w' ∧ w'.heap.size = w.heap.size := by
  go_enter Tryz.func188, Tryz.ntmps188
  go_wp2_with fail
  refine (SE.use_hit h).mono ?_
  rintro e w1 ⟨rfl, h1, k1, z1⟩
  have hr := h1.row x (by simp)
  have hf := hr.frozen 1
  have hc := h1.val x (by simp)
  have hfin : SE.L (w1.setCell ⟨x.b, 1, none⟩ (.pointer (some ⟨v, 0, none⟩))) bl bm most (l1 ++ l2 ++ [{ x with v := v }]) := h1.store (l1 := l1 ++ l2) (l2 := []) v
  have hkf : Kept (Lfp bl bm (l1 ++ x :: l2)) w (w1.setCell ⟨x.b, 1, none⟩ (.pointer (some ⟨v, 0, none⟩))) := k1.setCell _ _ (fun _ => .inr (.inr ⟨x, by simp, rfl⟩))
  have HZ : (w1.setCell ⟨x.b, 1, none⟩ (.pointer (some ⟨v, 0, none⟩))).heap.size = w.heap.size := by simpa [World.setCell] using z1
  have HZ := Lib.hid HZ
  clear z1 h1 hr k1
  unfold ptr
  go_wp2_with fail
  go_ret2
  exact ⟨rfl, hfin, hkf, HZ.out⟩

set_option maxRecDepth 100000 in
set_option maxHeartbeats 400000 in
theorem SE.put_room (h : SE.L w bl bm most xs) (hk : ∀ x ∈ xs, x.k ≠ k) (hle : (xs.length : Int) + 1 ≤ most) :
    Calls Tryz.prog 188 #[ptr (bl, 0), .string k, .pointer (some ⟨v, 0, none⟩)] w fun e w' => e = .returned (.tuple #[.string ⟨#[]⟩, .bool false]) ∧ SE.L w' bl bm most (xs ++ [⟨w.heap.size, k, v⟩]) ∧ Kept (Lfp bl bm xs) w w' ∧ w'.heap.size = w.heap.size + 1 := by
  have h1 : SE.L (w.alloc (.cells #[.string k, .pointer (some ⟨v, 0, none⟩), .pointer none, .pointer none] 196)) bl bm most xs := h.kept (Kept.one_alloc w _) (fun _ _ e => e)
  have hx : Loose strK vSE (w.alloc (.cells #[.string k, .pointer (some ⟨v, 0, none⟩), .pointer none, .pointer none] 196)) ⟨w.heap.size, k, v⟩ :=
    ⟨RowAt.new w _ _, by simp [strK], by simp [vSE]⟩
  have hf : ¬ Lfp bl bm xs w.heap.size := fun e => by have := h.lt _ e; omega
  obtain ⟨w2, hup, ht2, k2, z2⟩ := run_update_new (P := Tryz.prog) (t := 193) Tryz.underlying193 Tryz.underlying9 h1.tab (x := ⟨w.heap.size, k, v⟩) hk
  have hrl := h1.ring_then hx hf k2
  simp only [strK, ptr] at hup
  have hl := h.links
  have hl2 := h1.links
  go_enter Tryz.func188, Tryz.ntmps188
  go_wp2_with fail
  refine (SE.use_miss h hk).mono ?_
  rintro e w' ⟨rfl, rfl⟩
  have Z2 := Lib.hid z2
  have HK := Lib.hid hk
  clear z2 hk
  unfold ptr
  go_wp2_with fail
  refine (SE.last_any bl (w.heap.size, 0) (spots xs) _ hrl.1 hrl.2).mono ?_
  rintro e w3 ⟨rfl, m3, l3⟩
  have h3 : SE.L w3 bl bm most (xs ++ [⟨w.heap.size, k, v⟩]) := h1.added hx hf HK.out ht2 k2 m3 l3
  have hm3 := h3.most
  have hl3 := h3.links
  have hlen3 := fun n => run_len (ty := 3) (P := Tryz.prog) (t := 193) (w := w3.drewN n) (bm := bm) Tryz.underlying193 h3.tab
  simp only [List.length_append, List.length_cons, List.length_nil, Nat.zero_add, Int.natCast_add, Int.cast_ofNat_Int] at hlen3
  have hd : decide ((xs.length : Int) + 1 ≤ most) = true := by simpa using hle
  have hkf : Kept (Lfp bl bm xs) w w3 := by
    refine (((Kept.refl _ w).alloc _).trans k2 (fun k _ e => .inr (.inl e))).trans m3.kept (fun b hb e => ?_)
    obtain ⟨a, ha, e⟩ := List.mem_map.1 e
    have : a = (bl, 1) ∨ a ∈ spots xs ∨ a = (w.heap.size, 0) := by grind
    rcases this with rfl | ha | rfl
    · exact .inl e.symm
    · obtain ⟨y, hy, rfl⟩ := List.mem_map.1 ha
      exact .inr (.inr ⟨y, hy, e⟩)
    · simp only at e; omega
  have HZ : w3.heap.size = w.heap.size + 1 := by rw [m3.size, Z2.out]; simp
  have HZ := Lib.hid HZ
  clear m3 l3 hup hrl ht2 k2 h1 hx hl2 hl
  go_wp2_with fail
  go_quiet (fail)
  go_wp2_with fail
  go_ret2
  exact ⟨rfl, h3.twin (twin_drewN _ _), hkf.twin (twin_drewN _ _), HZ.out⟩
set_option maxRecDepth 100000 in
set_option maxHeartbeats 400000 in
theorem SE.put_full (h : SE.L w bl bm most (x :: xs)) (hk : ∀ y ∈ x :: xs, y.k ≠ k) (hle : ¬ ((xs.length : Int) + 1 + 1 ≤ most)) :
    Calls Tryz.prog 188 #[ptr (bl, 0), .string k, .pointer (some ⟨v, 0, none⟩)] w fun e w' => e = .returned (.tuple #[.string x.k, .bool true]) ∧ SE.L w' bl bm most (xs ++ [⟨w.heap.size, k, v⟩]) ∧ Kept (Lfp bl bm (x :: xs)) w w' ∧ w'.heap.size = w.heap.size + 1 := by
  have h1 : SE.L (w.alloc (.cells #[.string k, .pointer (some ⟨v, 0, none⟩), .pointer none, .pointer none] 196)) bl bm most (x :: xs) := h.kept (Kept.one_alloc w _) (fun _ _ e => e)
  have hx : Loose strK vSE (w.alloc (.cells #[.string k, .pointer (some ⟨v, 0, none⟩), .pointer none, .pointer none] 196)) ⟨w.heap.size, k, v⟩ :=
    ⟨RowAt.new w _ _, by simp [strK], by simp [vSE]⟩
  have hf : ¬ Lfp bl bm (x :: xs) w.heap.size := fun e => by have := h.lt _ e; omega
  obtain ⟨w2, hup, ht2, k2, z2⟩ := run_update_new (P := Tryz.prog) (t := 193) Tryz.underlying193 Tryz.underlying9 h1.tab (x := ⟨w.heap.size, k, v⟩) hk
  have hrl := h1.ring_then hx hf k2
  simp only [strK, ptr] at hup
  have hl := h.links
  have hl2 := h1.links
  go_enter Tryz.func188, Tryz.ntmps188
  go_wp2_with fail
  refine (SE.use_miss h hk).mono ?_
  rintro e w' ⟨rfl, rfl⟩
  have Z2 := Lib.hid z2
  have HK := Lib.hid hk
  clear z2 hk
  unfold ptr
  go_wp2_with fail
  refine (SE.last_any bl (w.heap.size, 0) (spots (x :: xs)) _ hrl.1 hrl.2).mono ?_
  rintro e w3 ⟨rfl, m3, l3⟩
  have h3 : SE.L w3 bl bm most (x :: xs ++ [⟨w.heap.size, k, v⟩]) := h1.added hx hf HK.out ht2 k2 m3 l3
  have hm3 := h3.most
  have hl3 := h3.links
  have hlen3 := fun n => run_len (ty := 3) (P := Tryz.prog) (t := 193) (w := w3.drewN n) (bm := bm) Tryz.underlying193 h3.tab
  simp only [List.cons_append, List.length_append, List.length_cons, List.length_nil, Nat.zero_add, Int.natCast_add, Int.cast_ofNat_Int] at hlen3
  have hd : decide ((xs.length : Int) + 1 + 1 ≤ most) = false := by simpa using hle
  have hkf : Kept (Lfp bl bm (x :: xs)) w w3 := by
    refine (((Kept.refl _ w).alloc _).trans k2 (fun k _ e => .inr (.inl e))).trans m3.kept (fun b hb e => ?_)
    obtain ⟨a, ha, e⟩ := List.mem_map.1 e
    have : a = (bl, 1) ∨ a ∈ spots (x :: xs) ∨ a = (w.heap.size, 0) := by grind
    rcases this with rfl | ha | rfl
    · exact .inl e.symm
    · obtain ⟨y, hy, rfl⟩ := List.mem_map.1 ha
      exact .inr (.inr ⟨y, hy, e⟩)
    · simp only at e; omega
  have HZ : w3.heap.size = w.heap.size + 1 := by rw [m3.size, Z2.out]; simp
  have HZ := Lib.hid HZ
  clear m3 l3 hup hrl ht2 k2 h1 hx hl2 hl
  go_wp2_with fail
  go_quiet (fail)
  rename_i nq
  have h4 : SE.L (w3.drewN nq) bl bm most (x :: (xs ++ [⟨w.heap.size, k, v⟩])) := h3.twin (twin_drewN _ _)
  have k4 : Kept (Lfp bl bm (x :: xs)) w (w3.drewN nq) := hkf.twin (twin_drewN _ _)
  go_wp2_with fail
  refine (SE.oldest_cons h4).mono ?_
  rintro e w4 ⟨rfl, t4⟩
  have h5 : SE.L w4 bl bm most ([] ++ x :: (xs ++ [⟨w.heap.size, k, v⟩])) := h4.twin t4
  have k5 := k4.twin t4
  have Z5 := Lib.hid (show w4.heap.size = w.heap.size + 1 by rw [t4.heap]; exact HZ.out)
  clear t4 hm3 hl3 hlen3 hd
  go_wp2_with fail
  refine (SE.drop_hit h5).mono ?_
  rintro e w5 ⟨rfl, h6, k6, z6⟩
  have Z6 := Lib.hid (z6.trans Z5.out)
  clear z6
  go_wp2_with fail
  go_ret2
  exact ⟨rfl, h6, k5.trans k6 (fun b hb e => by
    rcases e with e | e | ⟨y, hy, e⟩
    · exact .inl e
    · exact .inr (.inl e)
    · have : y = ⟨w.heap.size, k, v⟩ ∨ y ∈ x :: xs := by grind
      rcases this with rfl | hy
      · simp only at e; omega
      · exact .inr (.inr ⟨y, hy, e⟩)), Z6.out⟩


theorem SE.new_low (n : Int) (w : World) (h : n < 1) :
    Calls Tryz.prog 72 #[.int .i64 n] w fun e w' => e = .returned (.pointer (some ⟨w.heap.size + 1, 0, none⟩)) ∧
      Twin w' ((w.alloc (.map #[] 0)).alloc (.cells #[.int .i64 1, .string ⟨#[]⟩, .pointer none, .pointer (some ⟨w.heap.size + 1, 1, none⟩), .pointer (some ⟨w.heap.size + 1, 1, none⟩), .map (some w.heap.size)] 198)) := by
  have hmm := @run_makeMap Tryz.prog
  go_enter Tryz.func72, Tryz.ntmps72
  go_wp2
  go_region
  all_goals (go_wp2; go_ret; exact ⟨rfl, rfl, rfl, rfl, rfl⟩)

theorem SE.new_high (n : Int) (w : World) (h : ¬ n < 1) :
    Calls Tryz.prog 72 #[.int .i64 n] w fun e w' => e = .returned (.pointer (some ⟨w.heap.size + 1, 0, none⟩)) ∧
      Twin w' ((w.alloc (.map #[] 0)).alloc (.cells #[.int .i64 n, .string ⟨#[]⟩, .pointer none, .pointer (some ⟨w.heap.size + 1, 1, none⟩), .pointer (some ⟨w.heap.size + 1, 1, none⟩), .map (some w.heap.size)] 198)) := by
  have hmm := @run_makeMap Tryz.prog
  go_enter Tryz.func72, Tryz.ntmps72
  go_wp2
  go_region
  all_goals (go_wp2; go_ret; exact ⟨rfl, rfl, rfl, rfl, rfl⟩)

theorem SE.made (m : Int) (w : World) : SE.L ((w.alloc (.map #[] 0)).alloc (.cells #[.int .i64 m, .string ⟨#[]⟩, .pointer none, .pointer (some ⟨w.heap.size + 1, 1, none⟩), .pointer (some ⟨w.heap.size + 1, 1, none⟩), .map (some w.heap.size)] 198)) (w.heap.size + 1) w.heap.size m [] := by
  have e : (w.alloc (.map #[] 0)).heap.size = w.heap.size + 1 := by simp
  have hr := RowAt.new (w.alloc (.map #[] 0)) #[.int .i64 m, .string ⟨#[]⟩, .pointer none, .pointer (some ⟨w.heap.size + 1, 1, none⟩), .pointer (some ⟨w.heap.size + 1, 1, none⟩), .map (some w.heap.size)] 198
  have hc := fun i => World.cell?_alloc_at (w := w.alloc (.map #[] 0)) #[.int .i64 m, .string ⟨#[]⟩, .pointer none, .pointer (some ⟨w.heap.size + 1, 1, none⟩), .pointer (some ⟨w.heap.size + 1, 1, none⟩), .map (some w.heap.size)] 198 (w.heap.size + 1) i e.symm
  rw [e] at hr
  refine ⟨by simp, by simp, hr, by simp, hc 0, hc 1, hc 5, by simp, by simp, ?_, ?_⟩
  · intro e he
    have : e = ((w.heap.size + 1, 1), (w.heap.size + 1, 1)) := by simpa [edges, spots] using he
    subst this
    exact ⟨hc 4, hc 3⟩
  · exact (tab_new w).kept (Kept.one_alloc _ _) (fun e => e)

theorem SE.new_any (n : Int) (w : World) :
    Calls Tryz.prog 72 #[.int .i64 n] w fun e w' => e = .returned (ptr (w.heap.size + 1, 0)) ∧ SE.L w' (w.heap.size + 1) w.heap.size (max n 1) [] ∧ Kept (fun _ => False) w w' ∧ w'.heap.size = w.heap.size + 2 := by
  have hk : ∀ c, Kept (fun _ => False) w ((w.alloc (.map #[] 0)).alloc c) := fun c => ((Kept.refl _ w).alloc _).alloc _
  by_cases h : n < 1
  · refine (SE.new_low n w h).mono ?_
    rintro e w' ⟨rfl, t⟩
    refine ⟨rfl, ?_, (hk _).twin t, by rw [t.heap]; simp⟩
    rw [show max n 1 = 1 by omega]
    exact (SE.made 1 w).twin t
  · refine (SE.new_high n w h).mono ?_
    rintro e w' ⟨rfl, t⟩
    refine ⟨rfl, ?_, (hk _).twin t, by rw [t.heap]; simp⟩
    rw [show max n 1 = n by omega]
    exact (SE.made n w).twin t

def SE.kv (o : Option ByteArray) : Value := match o with | none => .string ⟨#[]⟩ | some k => strK.enc k

def SE.vv (o : Option (Ent ByteArray Nat)) : Value := match o with | none => .pointer none | some x => vSE x.v

theorem SE.put_any (h : SE.L w bl bm most xs) (h1 : 1 ≤ most) :
    Calls Tryz.prog 188 #[ptr (bl, 0), .string k, .pointer (some ⟨v, 0, none⟩)] w fun e w' => e = .returned (.tuple #[SE.kv (outE most k xs), .bool (outE most k xs).isSome]) ∧ SE.L w' bl bm most (putE most w.heap.size k v xs) ∧ Kept (Lfp bl bm xs) w w' ∧ w.heap.size ≤ w'.heap.size := by
  rcases split_key h.keys k with ⟨e1, e2, _⟩ | ⟨l1, x, l2, rfl, rfl, e2, e3⟩
  · unfold putE outE
    simp only [e1]
    by_cases hle : (xs.length : Int) + 1 ≤ most
    · simp only [if_pos hle]
      exact (SE.put_room h e2 hle).mono fun e w' ⟨h1, h2, h3, h4⟩ => ⟨h1, h2, h3, by omega⟩
    · simp only [if_neg hle]
      cases xs with
      | nil => exact (hle (by simpa using h1)).elim
      | cons x xs =>
        exact (SE.put_full h e2 (by simpa using hle)).mono fun e w' ⟨h1, h2, h3, h4⟩ => ⟨h1, h2, h3, by omega⟩
  · unfold putE outE
    simp only [e2, e3]
    exact (SE.put_hit h).mono fun e w' ⟨h1, h2, h3, h4⟩ => ⟨h1, h2, h3, by omega⟩

theorem SE.drop_any (h : SE.L w bl bm most xs) :
    Calls Tryz.prog 191 #[ptr (bl, 0), .string k] w fun e w' => e = .returned (.bool (lookE k xs).isSome) ∧ SE.L w' bl bm most (dropE k xs) ∧ Kept (Lfp bl bm xs) w w' ∧ w'.heap.size = w.heap.size := by
  rcases split_key h.keys k with ⟨e1, e2, e3⟩ | ⟨l1, x, l2, rfl, rfl, e2, e3⟩
  · rw [e1, e3]
    refine (SE.drop_miss h e2).mono ?_
    rintro e w' ⟨rfl, rfl⟩
    exact ⟨rfl, h, .refl _ _, rfl⟩
  · rw [e2, e3]
    exact SE.drop_hit h

theorem SE.get_any (h : SE.L w bl bm most xs) :
    Calls Tryz.prog 193 #[ptr (bl, 0), .string k] w fun e w' => e = .returned (.tuple #[SE.vv (lookE k xs), .bool (lookE k xs).isSome]) ∧ SE.L w' bl bm most (useE k xs) ∧ Kept (Lfp bl bm xs) w w' ∧ w'.heap.size = w.heap.size := by
  rcases split_key h.keys k with ⟨e1, e2, e3⟩ | ⟨l1, x, l2, rfl, rfl, e2, e3⟩
  · simp only [useE, e1]
    refine (SE.get_miss h e2).mono ?_
    rintro e w' ⟨rfl, rfl⟩
    exact ⟨rfl, h, .refl _ _, rfl⟩
  · simp only [useE, e2, e3]
    exact SE.get_hit h

theorem SE.peek_any (h : SE.L w bl bm most xs) :
    Calls Tryz.prog 192 #[ptr (bl, 0), .string k] w fun e w' => e = .returned (.tuple #[SE.vv (lookE k xs), .bool (lookE k xs).isSome]) ∧ w = w' := by
  rcases split_key h.keys k with ⟨e1, e2, e3⟩ | ⟨l1, x, l2, rfl, rfl, e2, e3⟩
  · simp only [e1]
    exact SE.peek_miss h e2
  · simp only [e2]
    exact SE.peek_hit h (by simp)

theorem SE.oldest_any (h : SE.L w bl bm most xs) :
    Calls Tryz.prog 196 #[ptr (bl, 0)] w fun e w' => e = .returned (.tuple #[SE.kv (xs.head?.map (·.k)), .bool xs.head?.isSome]) ∧ Twin w' w := by
  cases xs with
  | nil => exact SE.oldest_nil h
  | cons x xs => exact SE.oldest_cons h

theorem SE.new_own (n : Int) (w : World) :
    Calls Tryz.prog 72 #[.int .i64 n] w fun e w' => ∃ bl bm, e = .returned (.pointer (some ⟨bl, 0, none⟩)) ∧ SE.L w' bl bm (max n 1) [] ∧ Kept (fun b => w.heap.size ≤ b) w w' ∧ w.heap.size ≤ bl ∧ w.heap.size ≤ bm := by
  refine (SE.new_any n w).mono ?_
  rintro e w' ⟨rfl, h, k, _⟩
  exact ⟨_, _, rfl, h, k.mono (fun _ _ e => e.elim), by omega, by omega⟩
end

end Go.Proofs.YtdkcnigghcbnpaaGreat
