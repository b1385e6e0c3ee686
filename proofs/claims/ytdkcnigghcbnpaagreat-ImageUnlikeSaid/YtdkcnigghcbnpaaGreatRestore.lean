/- scan.Restore: a table out of bytes, or none. -/
import Derived.Test.YtdkcnigghcbnpaaGreatScanC
import Derived.Test.YtdkcnigghcbnpaaGreatScanA
namespace Go.Proofs.YtdkcnigghcbnpaaGreat
set_option linter.unusedVariables false
set_option linter.unusedSimpArgs false
open Go.RowKit Go.MapKept

/-- What Restore makes of bytes. -/
def resP (m : TM) (b : ByteArray) : Option (List Pr) :=
  if m.right = true ∧ b.size % (m.ks.toNat + m.vs.toNat) = 0 ∧ b.size ≤ (m.ks.toNat + m.vs.toNat) * m.mx.toNat then
    match runP m (newP m) (entsB m.ks.toNat m.vs.toNat b) with
    | some P => if snapB (ordP m P) = b then some P else none
    | none => none
  else none
def ResPost (m : TM) (b : ByteArray) (W : World) (e : Ending) (w' : World) : Prop :=
  Kept (fun _ => False) W w' ∧ match resP m b with
    | none => e = .returned (.tuple #[.pointer none, .int .i64 (if m.right = true then 2 else 1)])
    | some P => ∃ bt, e = .returned (.tuple #[.pointer (some ⟨bt, 0, none⟩), .int .i64 0]) ∧ Ses m bt P (fun b => W.heap.size ≤ b ∧ b < w'.heap.size) w'
theorem res_results {tmps : Array Value} {rb eb : Nat} {sv ev : Value} {W : World} (h4 : tmps.getD 4 undef = .pointer (some ⟨rb, 0, none⟩)) (h5 : tmps.getD 5 undef = .pointer (some ⟨eb, 0, none⟩)) (ho : Box W rb sv) (hm : Box W eb ev) :
    (results Tryz.f18 tmps).run Tryz.prog W = .ok (.tuple #[sv, ev]) W := by
  have hr : Tryz.f18.results = #[.cell 4 24, .cell 5 31] := rfl
  have hco := ho.cell
  have hcm := hm.cell
  simp only [results, hr]
  simp only [h4, h5, List.mapM_toArray, List.mapM_cons, List.mapM_nil, Sem.run_bind, Sem.run_pure]
  go_simp

theorem ResPost.no {m : TM} {b : ByteArray} {W w' : World} {e : Ending} (k : Kept (fun _ => False) W w') (h : resP m b = none) (he : e = .returned (.tuple #[.pointer none, .int .i64 (if m.right = true then 2 else 1)])) : ResPost m b W e w' := ⟨k, by rw [h]; exact he⟩
theorem ResPost.yes {m : TM} {b : ByteArray} {W w' : World} {e : Ending} {P : List Pr} {bt : Nat} (k : Kept (fun _ => False) W w') (h : resP m b = some P) (he : e = .returned (.tuple #[.pointer (some ⟨bt, 0, none⟩), .int .i64 0])) (hs : Ses m bt P (fun b => W.heap.size ≤ b ∧ b < w'.heap.size) w') : ResPost m b W e w' := ⟨k, by rw [h]; exact ⟨bt, he, hs⟩⟩
theorem BytesAt.sub {W : World} {g o T i n : Nat} {b : ByteArray} (h : BytesAt W (some ⟨g, o, none⟩) T b) (hi : i + n ≤ T) : BytesAt W (some ⟨g, o + i, none⟩) n (sub b i n) := by
  have hT : T = b.size := h.1
  have hs : (Go.Proofs.YtdkcnigghcbnpaaGreat.sub b i n).size = n := sub_size b i n (by omega)
  refine ⟨hs.symm, fun _ ad e => by cases e; exact ⟨_, _, rfl⟩, fun j hj => ?_⟩
  obtain ⟨g', o', e, hlt, hc⟩ := h.2.2 (i + j) (by omega)
  cases e
  refine ⟨g, o + i, rfl, hlt, ?_⟩
  rw [show o + i + j = o + (i + j) by omega, hc]
  have e : (nums (Go.Proofs.YtdkcnigghcbnpaaGreat.sub b i n)).getD j 0 = (nums b).getD (i + j) 0 := by
    unfold nums Go.Proofs.YtdkcnigghcbnpaaGreat.sub
    simp only [List.getD_eq_getElem?_getD, List.getElem?_map, List.getElem?_take, List.getElem?_drop]
    rw [if_pos hj]
  rw [e]
theorem runP_stop {m : TM} {p : Pr} {B R : List Pr} : ∀ {A P : List Pr}, runP m P A = some R → codeP m p.1 p.2 0 R ≠ 0 → runP m P (A ++ p :: B) = none
  | [], P, h, hc => by
    have e : P = R := Option.some.inj h
    subst e
    show (if codeP m p.1 p.2 0 P = 0 then _ else none) = none
    rw [if_neg hc]
  | a :: A, P, h, hc => by
    have h : (if codeP m a.1 a.2 0 P = 0 then runP m (updP m a.1 a.2 0 P) A else none) = some R := h
    show (if codeP m a.1 a.2 0 P = 0 then runP m (updP m a.1 a.2 0 P) (A ++ p :: B) else none) = none
    split at h
    · rename_i h0
      rw [if_pos h0]
      exact runP_stop h hc
    · cases h
theorem own_bytesAt {W : World} {t n c : Nat} {a : Option Addr} {k : ByteArray} (h : W.ownsRow 0 t 1 (.slice a n c) n (byteVs k)) (hn : n = k.size) : BytesAt W a n k := by
  obtain ⟨a', c', e, hg, hz, -⟩ := own_form h
  cases e
  refine ⟨hn, fun _ ad e => ⟨ad.block, 0, hz ad e⟩, fun i hi => ?_⟩
  obtain ⟨g, rfl⟩ := hg (by omega)
  exact ⟨g, 0, rfl, (own_row h).lt, by rw [Nat.zero_add]; exact own_cell h (byteVs_at k (by omega))⟩
theorem kvs_ordT {m : TM} {E : List En} (hn : (E.map (·.key)).Nodup) : ordP m (kvs E) = kvs (ordT m E) := by
  unfold ordP ordT
  split
  · have hn2 : ((kvs E).map (·.1)).Nodup := by
      unfold kvs
      rw [List.map_map]
      exact hn
    refine rises_unique ((sortK_perm (kvs E)).trans ((sortK_perm E).map _).symm) (sortK_rises hn2) ?_
    have h := sortK_rises hn
    unfold Rises at h ⊢
    unfold kvs
    rw [List.pairwise_map]
    exact h
  · rfl
/-- A round's end behind an update. -/
theorem res_round {W5 W6 W7 : World} {U' Fp : Nat → Prop} {l : Nat} (kl : Kept (fun b => b = l) W5 W6) (zl : W6.heap.size = W5.heap.size) (k7 : Kept Fp W6.drew W7) (hF : ∀ b, Fp b → U' b) (hlt : ∀ b, U' b → b < W5.heap.size) (hl : ¬ U' l) (hlW : l < W5.heap.size) :
    W7.heap[l]? = W6.heap[l]? ∧ Grow (fun b => U' b ∨ b = l) (fun b => (U' b ∨ (W6.heap.size ≤ b ∧ b < W7.heap.size)) ∨ b = l) W5 W7 ∧ ¬ (U' l ∨ (W6.heap.size ≤ l ∧ l < W7.heap.size)) ∧ (∀ b, U' b → U' b ∨ (W6.heap.size ≤ b ∧ b < W7.heap.size)) ∧ Kept (fun b => Fp b ∨ b = l) W5 W7 := by
  have kd6 : Kept (fun _ => False) W6 W6.drew := ⟨rfl, rfl, rfl, Nat.le_refl _, fun _ _ _ => rfl⟩
  have k67 : Kept Fp W6 W7 := (kd6.mono fun _ _ e => e.elim).trans k7 (fun _ _ e => e)
  have hz := k67.size
  have k57 : Kept (fun b => Fp b ∨ b = l) W5 W7 := (kl.mono fun _ _ e => .inr e).trans k67 (fun _ _ e => .inl e)
  refine ⟨k67.block l (by omega) (fun h => hl (hF l h)), ⟨k57.mono fun b _ e => e.imp (hF b) id, ?_, ?_, ?_⟩, ?_, fun b h => .inl h, k57⟩
  · rintro b (h | h)
    · exact .inl (.inl h)
    · exact .inr h
  · rintro b ((h | h) | h)
    · exact .inl (.inl h)
    · exact .inr (by omega)
    · exact .inl (.inr h)
  · rintro b ((h | h) | h)
    · have := hlt b h
      omega
    · exact h.2
    · omega
  · rintro (h | h)
    · exact hl h
    · omega
/-- The end without a table. -/
theorem res_leave_no {m : TM} {b : ByteArray} {W wa : World} {rb eb : Nat} {r0 e0 : Value} {tmps : Array Value} (h4 : tmps.getD 4 undef = .pointer (some ⟨rb, 0, none⟩)) (h5 : tmps.getD 5 undef = .pointer (some ⟨eb, 0, none⟩)) (b2 : Box wa rb r0) (b3 : Box wa eb e0) (hne : eb ≠ rb)
    (hk : Kept (fun b => W.heap.size ≤ b) W wa) (hrb : W.heap.size ≤ rb) (heb : W.heap.size ≤ eb) (ds : List Nat) (hn : ds.Nodup) (hds : ∀ d ∈ ds, wa.heap[d]? = some (.deferred (some [])) ∧ W.heap.size ≤ d ∧ d ≠ rb ∧ d ≠ eb) (hr : m.right = true) (h : resP m b = none) :
    bodyPostM (WR none) 0 Tryz.prog Tryz.f18 (ResPost m b W) .ret ⟨tmps, ds.map fun d => { target := .collected d, args := #[] }⟩ ((wa.setCell ⟨rb, 0, none⟩ (.pointer none)).setCell ⟨eb, 0, none⟩ (.int .i64 2)) := by
  have bo := (b2.set (.pointer none)).kept (Kept.one_set (wa.setCell ⟨rb, 0, none⟩ (.pointer none)) ⟨eb, 0, none⟩ (.int .i64 2)) (fun e => hne e.symm)
  have be := (b3.kept (Kept.one_set wa ⟨rb, 0, none⟩ (.pointer none)) (fun e => hne e)).set (.int .i64 2)
  have k2 : Kept (fun b => b = rb ∨ b = eb) wa ((wa.setCell ⟨rb, 0, none⟩ (.pointer none)).setCell ⟨eb, 0, none⟩ (.int .i64 2)) := ((Kept.refl _ wa).setCell _ _ (fun _ => .inl rfl)).setCell _ _ (fun _ => .inr rfl)
  refine leaves_marks ds _ hn (fun d hd => ?_) (fun W' kd => ?_)
  · obtain ⟨h1, -, h2, h3⟩ := hds d hd
    exact (k2.block d (Array.getElem?_eq_some_iff.1 h1).1 (fun e => e.elim h2 h3)).trans h1
  · refine ⟨_, res_results h4 h5 (bo.kept kd (fun e => (hds _ e).2.2.1 rfl)) (be.kept kd (fun e => (hds _ e).2.2.2 rfl)), ResPost.no ?_ h (by rw [if_pos hr])⟩
    refine Kept.none ((hk.trans k2 (fun b _ e => ?_)).trans kd (fun b _ e => (hds b e).2.1))
    rcases e with rfl | rfl
    · exact hrb
    · exact heb
set_option maxRecDepth 100000 in
set_option maxHeartbeats 2000000 in
theorem restore_any (m : TM) {a : Option Addr} {T c : Nat} {b : ByteArray} {W : World} (hb : BytesAt W a T b) (hTc : T ≤ c) (hbig : T ≤ 1000000) :
    Calls Tryz.prog 18 #[m.v, .slice a T c] W (ResPost m b W) := by
  obtain ⟨nm, kd, ks, vs, mx⟩ := m
  refine callsIn_WR (ro := none) (n := 0).1 (callsIn_of_wp_marks Tryz.func18 rfl trivial ?_ rfl)
  simp only [TM.v, Tryz.ntmps18, List.size_toArray, List.length_cons, List.length_nil, Nat.reduceAdd, Nat.reduceSub, Array.replicate_succ, Array.replicate_zero, List.push_toArray, List.append_toArray, List.nil_append, List.cons_append]
  have HB := Lib.hid hb
  clear hb
  gi_wp2_with fail
  obtain ⟨W1, hW1⟩ : ∃ W1, W1 = ((W.alloc (.cells #[.string nm, .int .i64 kd, .int .i64 ks, .int .i64 vs, .int .i64 mx] 35)).alloc (.cells #[.pointer none] 24)).alloc (.cells #[.int .i64 0] 31) := ⟨_, rfl⟩
  have k1 := Kept.one_alloc W (.cells #[.string nm, .int .i64 kd, .int .i64 ks, .int .i64 vs, .int .i64 mx] 35)
  have k2 := Kept.one_alloc (W.alloc (.cells #[.string nm, .int .i64 kd, .int .i64 ks, .int .i64 vs, .int .i64 mx] 35)) (.cells #[.pointer none] 24)
  have k3 := Kept.one_alloc ((W.alloc (.cells #[.string nm, .int .i64 kd, .int .i64 ks, .int .i64 vs, .int .i64 mx] 35)).alloc (.cells #[.pointer none] 24)) (.cells #[.int .i64 0] 31)
  have b2 := (Box.new (W.alloc (.cells #[.string nm, .int .i64 kd, .int .i64 ks, .int .i64 vs, .int .i64 mx] 35)) (.pointer none) 24).kept k3 (fun e => e)
  have b3 := Box.new ((W.alloc (.cells #[.string nm, .int .i64 kd, .int .i64 ks, .int .i64 vs, .int .i64 mx] 35)).alloc (.cells #[.pointer none] 24)) (.int .i64 0) 31
  have hq : W.heap.size < W1.heap.size ∧ W1.cell? ⟨W.heap.size, 2, none⟩ = some (.int .i64 ks) ∧ W1.cell? ⟨W.heap.size, 3, none⟩ = some (.int .i64 vs) ∧ W1.cell? ⟨W.heap.size, 4, none⟩ = some (.int .i64 mx) := by
    have hh : W1.heap[W.heap.size]? = some (.cells #[.string nm, .int .i64 kd, .int .i64 ks, .int .i64 vs, .int .i64 mx] 35) := by
      rw [hW1]
      exact (k3.block _ (by simp; omega) (fun e => e)).trans ((k2.block _ (by simp) (fun e => e)).trans (heap_alloc_new W _))
    refine ⟨(Array.getElem?_eq_some_iff.1 hh).1, ?_, ?_, ?_⟩ <;> simp [World.cell?, hh]
  have k := (k1.trans k2 (fun _ _ e => e)).trans k3 (fun _ _ e => e)
  simp only [World.size_alloc] at b2 b3
  obtain ⟨qb, hqb⟩ : ∃ qb, qb = W.heap.size := ⟨_, rfl⟩
  obtain ⟨rb, hrb⟩ : ∃ rb, rb = W.heap.size + 1 := ⟨_, rfl⟩
  obtain ⟨eb, heb⟩ : ∃ eb, eb = W.heap.size + 1 + 1 := ⟨_, rfl⟩
  rw [← hW1] at k b2 b3 ⊢
  rw [← hqb] at hq
  rw [← hrb] at b2
  rw [← heb] at b3
  rw [← heb, ← hrb, ← hqb]
  have HW := Lib.hid (And.intro hqb (And.intro hrb (And.intro heb (And.intro hq (And.intro b2 (And.intro b3 k))))))
  clear hW1 k1 k2 k3 hqb hrb heb hq b2 b3 k
  by_cases hr : TM.right ⟨nm, kd, ks, vs, mx⟩ = true
  case neg =>
    refine callsIn_WR.2 ((new_any (W := W1) ⟨nm, kd, ks, vs, mx⟩).mono ?_)
    rintro e W2 (⟨hf, rfl, k12⟩ | ⟨hr', -⟩)
    case inr => exact (hr hr').elim
    obtain ⟨hqb, hrb, heb, hq, b2, b3, k⟩ := HW.out
    obtain ⟨wa, hwa⟩ : ∃ wa, wa = W2.alloc (.cells #[.pointer none] 24) := ⟨_, rfl⟩
    have ka := Kept.one_alloc W2 (.cells #[.pointer none] 24)
    have b2a := (b2.kept k12 (fun e => e)).kept ka (fun e => e)
    have b3a := (b3.kept k12 (fun e => e)).kept ka (fun e => e)
    have hcr := b2a.cell
    have hfr := b2a.frozen
    have hne : eb ≠ rb := by omega
    have b3b := b3a.kept (Kept.one_set _ ⟨rb, 0, none⟩ (.pointer none)) (fun e => hne e)
    have hce := b3b.cell
    have hfe := b3b.frozen
    have H := Lib.hid (And.intro hf (And.intro k12 (And.intro ka (And.intro b2a b3a))))
    clear hf k12 ka b2a b3a b3b hqb hrb heb hq b2 b3 k
    gi_wp2_with fail
    obtain ⟨hf, k12, ka, b2a, b3a⟩ := H.out
    obtain ⟨hqb, hrb, heb, hq, b2, b3, k⟩ := HW.out
    refine leaves_marks [] _ (by simp) (fun d hd => by cases hd) (fun W' kd => ?_)
    have bo := ((b2a.set (.pointer none)).kept (Kept.one_set _ ⟨eb, 0, none⟩ (.int .i64 1)) (fun e => hne e.symm)).kept kd (fun e => by cases e)
    have be := ((b3a.kept (Kept.one_set _ ⟨rb, 0, none⟩ (.pointer none)) (fun e => hne e)).set (.int .i64 1)).kept kd (fun e => by cases e)
    refine ⟨_, res_results rfl rfl bo be, ResPost.no ?_ ?_ ?_⟩
    · refine Kept.none (((((k.trans k12 (fun _ _ e => e)).trans ka (fun _ _ e => e)).mono (S' := fun b => W.heap.size ≤ b) (fun _ _ e => e.elim)).setCell ⟨rb, 0, none⟩ (.pointer none) (fun _ => by show W.heap.size ≤ rb; omega)).setCell ⟨eb, 0, none⟩ (.int .i64 1) (fun _ => by show W.heap.size ≤ eb; omega) |>.trans kd (fun _ _ e => by cases e))
    · unfold resP
      rw [if_neg (fun h => by rw [hf] at h; cases h.1)]
    · rw [hf]
      rfl
  case pos =>
    refine callsIn_WR.2 ((ses_new hr W1).mono ?_)
    rintro e W2 ⟨bt, rfl, hS, k12⟩
    obtain ⟨hqb, hrb, heb, hq, b2, b3, k⟩ := HW.out
    have ka := Kept.one_alloc W2 (.cells #[.pointer (some ⟨bt, 0, none⟩)] 24)
    have k2a := k12.trans ka (fun _ _ e => e)
    have b2a := b2.kept k2a (fun e => e)
    have b3a := b3.kept k2a (fun e => e)
    have bta := Box.new W2 (.pointer (some ⟨bt, 0, none⟩)) 24
    have h2 := (k2a.cell (p := ⟨qb, 2, none⟩) hq.1 (fun e => e)).trans hq.2.1
    have h3 := (k2a.cell (p := ⟨qb, 3, none⟩) hq.1 (fun e => e)).trans hq.2.2.1
    have h4 := (k2a.cell (p := ⟨qb, 4, none⟩) hq.1 (fun e => e)).trans hq.2.2.2
    have hzz := k12.size
    obtain ⟨tb, htb⟩ : ∃ tb, W2.heap.size = tb := ⟨_, rfl⟩
    obtain ⟨W3, hW3⟩ : ∃ W3, W3 = W2.alloc (.cells #[.pointer (some ⟨bt, 0, none⟩)] 24) := ⟨_, rfl⟩
    have hcr := b2a.cell
    have hfr := b2a.frozen
    have hne : eb ≠ rb := by omega
    have b3b := b3a.kept (Kept.one_set (W2.alloc (.cells #[.pointer (some ⟨bt, 0, none⟩)] 24)) ⟨rb, 0, none⟩ (.pointer none)) (fun e => hne e)
    have hce := b3b.cell
    have hfe := b3b.frozen
    have H := Lib.hid (And.intro hS (And.intro ka (And.intro k2a (And.intro b2a (And.intro b3a (And.intro bta (And.intro htb hzz)))))))
    have HW3 := Lib.hid hW3
    have hkw : Kept (fun b => W.heap.size ≤ b) W (W2.alloc (.cells #[.pointer (some ⟨bt, 0, none⟩)] 24)) := (k.trans k2a (fun _ _ e => e)).mono fun _ _ e => e.elim
    have HKW := Lib.hid (And.intro hkw (And.intro (show W.heap.size ≤ rb by omega) (show W.heap.size ≤ eb by omega)))
    clear hkw
    clear hS ka k2a b2a b3a bta b3b hqb hrb heb hq b2 b3 k htb hW3 k12 hzz
    have hr3 := (rightB_iff _ _ _ _ _).1 hr
    have hks : 1 ≤ ks ∧ ks ≤ 64 := ⟨hr3.2.2.2.1, hr3.2.2.2.2.1⟩
    have hvs : 1 ≤ vs ∧ vs ≤ 256 := ⟨hr3.2.2.2.2.2.2.1, hr3.2.2.2.2.2.2.2.1⟩
    have hmx : 1 ≤ mx ∧ mx ≤ 1024 := ⟨hr3.2.2.2.2.2.2.2.2.1, hr3.2.2.2.2.2.2.2.2.2⟩
    obtain ⟨K, rfl⟩ : ∃ K : Nat, ks = (K : Int) := ⟨ks.toNat, by omega⟩
    obtain ⟨V, rfl⟩ : ∃ V : Nat, vs = (V : Int) := ⟨vs.toNat, by omega⟩
    obtain ⟨N, rfl⟩ : ∃ N : Nat, mx = (N : Int) := ⟨mx.toNat, by omega⟩
    obtain ⟨D, hD⟩ : ∃ D : Nat, K + V = D := ⟨_, rfl⟩
    have hDi : (K : Int) + (V : Int) = (D : Int) := by omega
    have HR := Lib.hid (And.intro hr (And.intro hks (And.intro hvs (And.intro hmx hD))))
    have hD1 : 1 ≤ D ∧ D ≤ 320 := by omega
    have hN1 : 1 ≤ N ∧ N ≤ 1024 := by omega
    have hTb : T = b.size := HB.out.1
    have hno : ¬ (T % D = 0 ∧ T ≤ D * N) → resP ⟨nm, kd, K, V, N⟩ b = none := by
      intro h
      unfold resP
      rw [if_neg ?_]
      rintro ⟨-, h1, h2⟩
      simp only [Int.toNat_natCast] at h1 h2
      rw [← hTb, hD] at h1 h2
      exact h ⟨h1, h2⟩
    have HNO := Lib.hid hno
    clear hr3 hks hvs hmx hD hno
    by_cases hbad : T % D = 0 ∧ T ≤ D * N
    case neg =>
      have hrem : (T : Int).tmod (D : Int) = ((T % D : Nat) : Int) := tmod_nat T D
      by_cases hm0 : T % D = 0
      · obtain ⟨X, hX⟩ : ∃ X : Nat, D * N = X := ⟨_, rfl⟩
        have hXb : X ≤ 320 * 1024 := by rw [← hX]; exact Nat.mul_le_mul hD1.2 hN1.2
        have hXi : (D : Int) * (N : Int) = (X : Int) := by rw [← hX]; simp
        have hgt : X < T := by
          rw [← hX]
          by_cases h : T ≤ D * N
          · exact (hbad ⟨hm0, h⟩).elim
          · omega
        rw [hm0] at hrem
        have HBAD := Lib.hid (And.intro hbad (And.intro hm0 hX))
        clear hbad hm0 hX hTb
        gi_wp2_with fail
        exact res_leave_no (ds := []) rfl rfl H.out.2.2.2.1 H.out.2.2.2.2.1 hne HKW.out.1 HKW.out.2.1 HKW.out.2.2 (by simp) (fun d hd => by cases hd) HR.out.1 (HNO.out HBAD.out.1)
      · have hmn : (T : Int).tmod (D : Int) ≠ 0 := by rw [hrem]; omega
        have HBAD := Lib.hid (And.intro hbad hm0)
        clear hbad hm0 hTb hrem
        gi_wp2_with fail
        exact res_leave_no (ds := []) rfl rfl H.out.2.2.2.1 H.out.2.2.2.2.1 hne HKW.out.1 HKW.out.2.1 HKW.out.2.2 (by simp) (fun d hd => by cases hd) HR.out.1 (HNO.out HBAD.out.1)
    case pos =>
      have hrem : (T : Int).tmod (D : Int) = ((T % D : Nat) : Int) := tmod_nat T D
      rw [hbad.1] at hrem
      obtain ⟨X, hX⟩ : ∃ X : Nat, D * N = X := ⟨_, rfl⟩
      have hXb : X ≤ 320 * 1024 := by rw [← hX]; exact Nat.mul_le_mul hD1.2 hN1.2
      have hXi : (D : Int) * (N : Int) = (X : Int) := by rw [← hX]; simp
      have hle : T ≤ X := by rw [← hX]; exact hbad.2
      obtain ⟨cnt, hcnt⟩ : ∃ cnt, T = cnt * D := ⟨T / D, by rw [Nat.mul_comm, Nat.mul_div_cancel' (Nat.dvd_of_mod_eq_zero hbad.1)]⟩
      have HX := Lib.hid (And.intro hbad (And.intro hX hcnt))
      have hch := fun W => chunk_any a T c D hD1.1 (by omega) W
      have HCH := Lib.hid hch
      clear hbad hX hcnt hTb hch
      gi_wp2_with fail
      rw [← HW3.out]
      refine callsIn_WR.2 ((HCH.out _).mono ?_)
      rintro e W4 ⟨bx, nb, rfl, hcr4, k4, hbx, hnb⟩
      have H4 := Lib.hid (And.intro hcr4 (And.intro k4 (And.intro hbx hnb)))
      clear hcr4 k4 hbx hnb hcr hfr hce hfe h2 h3 h4
      gi_wp2_with fail
      obtain ⟨hqb, hrb, heb, hq, b2, b3, k⟩ := HW.out
      obtain ⟨hS, ka, k2a, b2a, b3a, bta, htb, hzz⟩ := H.out
      obtain ⟨hcr4, k4, hbx, hnb⟩ := H4.out
      rw [← HW3.out] at ka k2a b2a b3a bta
      have k14 : Kept (fun _ => False) W1 W4 := k2a.trans k4 (fun _ _ e => e)
      have hS4 : Ses ⟨nm, kd, K, V, N⟩ bt (newP ⟨nm, kd, K, V, N⟩) (fun b => W1.heap.size ≤ b ∧ b < W2.heap.size) W4 := (hS.kept ka (fun _ _ e => e)).kept k4 (fun _ _ e => e)
      have hz3 : W3.heap.size = W2.heap.size + 1 := by rw [HW3.out]; simp
      have ha : 0 < T → ∃ g o, a = some ⟨g, o, none⟩ := fun h => by
        obtain ⟨g, o, e, -⟩ := HB.out.2.2 0 h
        exact ⟨g, o, e⟩
      obtain ⟨g, o, ha⟩ : ∃ g o, 0 < T → a = some ⟨g, o, none⟩ := by
        by_cases h : 0 < T
        · obtain ⟨g, o, e⟩ := ha h
          exact ⟨g, o, fun _ => e⟩
        · exact ⟨0, 0, fun h' => (h h').elim⟩
      have hit := chunk1_any bx nb a g o T c D cnt ha HX.out.2.2 hD1.1 hTc hbig
      refine wpW_rangeG hit rfl chunk_enters (fun _ => by rfl)
        (fun (pre : List Nat) U W' => ∃ P Fp, runP ⟨nm, kd, K, V, N⟩ (newP ⟨nm, kd, K, V, N⟩) ((entsB K V b).take pre.length) = some P ∧ Ses ⟨nm, kd, K, V, N⟩ bt P Fp W' ∧ (∀ b, Fp b → U b ∧ b ≠ rb ∧ b ≠ eb) ∧ U rb ∧ U eb ∧ (∃ r, Box W' rb r) ∧ (∃ e, Box W' eb e) ∧ ∀ b, U b → W.heap.size ≤ b)
        (fun c U W' => c = .ret ∧ runP ⟨nm, kd, K, V, N⟩ (newP ⟨nm, kd, K, V, N⟩) (entsB K V b) = none ∧ U rb ∧ U eb ∧ Box W' rb (.pointer none) ∧ Box W' eb (.int .i64 2))
        (fun b => (W1.heap.size ≤ b ∧ b < W2.heap.size) ∨ b = rb ∨ b = eb) ?_ ?_ ?_ hcr4.dlt ?_ hcr4 (fun W W' h k => h.kept k (fun b hb e => e hb)) ?_ ?_ ?_ ?_
      · rintro pre U Wa Wb ⟨P, Fp, h1, h2, h3, h4, h5, ⟨r, h6⟩, ⟨e, h7⟩, h8⟩ kk
        exact ⟨P, Fp, h1, h2.kept kk (fun b hb e => e (h3 b hb).1), h3, h4, h5, ⟨r, h6.kept kk (fun e => e h4)⟩, ⟨e, h7.kept kk (fun e => e h5)⟩, h8⟩
      · rintro c U Wa Wb ⟨h1, h2, h4, h5, h6, h7⟩ kk
        exact ⟨h1, h2, h4, h5, h6.kept kk (fun e => e h4), h7.kept kk (fun e => e h5)⟩
      · have := b2.lt
        have := b3.lt
        rintro b (h | rfl | rfl) (rfl | rfl) <;> omega
      · have := k14.size
        have := b2.lt
        have := b3.lt
        have := k4.size
        rintro b (h | rfl | rfl) <;> omega
      · have := b2.lt
        have := b3.lt
        refine ⟨newP ⟨nm, kd, K, V, N⟩, _, by simp [runP], hS4, fun b hb => ⟨.inl hb, by omega, by omega⟩, .inr (.inl rfl), .inr (.inr rfl), ⟨_, b2a.kept k4 (fun e => e)⟩, ⟨_, b3a.kept k4 (fun e => e)⟩, fun b hb => ?_⟩
        have := k.size
        rcases hb with hb | rfl | rfl <;> omega
      · intro l pre x rest U' W5 hitems hi hkw hlt' hD' hRd' hl hlD hlW hlw hUU
        have hx : x = pre.length ∧ x < cnt := by
          have h1 := congrArg (fun l => l[pre.length]?) hitems
          have h2 := congrArg List.length hitems
          simp at h1 h2
          have h3 : pre.length < cnt := by omega
          rw [List.getElem?_range h3] at h1
          have := Option.some.inj h1
          omega
        obtain ⟨hxp, hxc⟩ := hx
        obtain ⟨P, Fp, hrun, hSP, hF, hUr, hUe, ⟨r0, bxr⟩, ⟨e0, bxe⟩, hUW⟩ := hi
        have HGU := Lib.hid (show ∀ b, U' b → b < W.heap.size → False from fun b hb h => by have := hUW b hb; omega)
        have hpD : x * D + D ≤ T := by
          rw [HX.out.2.2, ← Nat.succ_mul]
          exact Nat.mul_le_mul_right _ hxc
        have hT0 : 0 < T := by omega
        have hDK : K + V = D := HR.out.2.2.2.2
        have hbt4 : BytesAt W4 (some ⟨g, o, none⟩) T b := by
          have h := HB.out
          rw [ha hT0] at h
          exact (h.kept k (fun _ _ _ e => e)).kept k14 (fun _ _ _ e => e)
        have hgW : g < W.heap.size := by
          have h := HB.out
          rw [ha hT0] at h
          obtain ⟨g', o', e, hlt, -⟩ := h.2.2 0 hT0
          cases e
          exact hlt
        have h01 := k.size
        have h14 := k14.size
        have hbt5 : BytesAt W5 (some ⟨g, o, none⟩) T b := hbt4.kept hkw (fun b' o' e hb => by cases e; rcases hb with h | h | h <;> omega)
        have hql := hq.1
        have h24 : W2.heap.size < W4.heap.size := by have := k4.size; omega
        have h2n : ¬ ((W1.heap.size ≤ W2.heap.size ∧ W2.heap.size < W2.heap.size) ∨ W2.heap.size = rb ∨ W2.heap.size = eb) := by
          have := b2.lt
          have := b3.lt
          omega
        have hqn : ¬ ((W1.heap.size ≤ qb ∧ qb < W2.heap.size) ∨ qb = rb ∨ qb = eb) := by omega
        have hq2 : W5.cell? ⟨qb, 2, none⟩ = some (.int .i64 (K : Int)) := (hkw.cell (p := ⟨qb, 2, none⟩) (show qb < W4.heap.size by omega) hqn).trans ((k14.cell (p := ⟨qb, 2, none⟩) hq.1 (fun e => e)).trans hq.2.1)
        have bt5 : Box W5 W2.heap.size (.pointer (some ⟨bt, 0, none⟩)) := (bta.kept k4 (fun e => e)).kept hkw h2n
        have hlW4 : W4.heap.size ≤ l := hlw
        obtain ⟨p, hp⟩ : ∃ p, p = x * D := ⟨_, rfl⟩
        rw [← hp] at hpD
        have hek : (entsB K V b)[pre.length]? = some (sub b p K, sub b (p + K) V) := by
          unfold entsB
          rw [hDK, List.getElem?_map, List.getElem?_range (by rw [← HB.out.1, HX.out.2.2, Nat.mul_div_cancel _ (by omega)]; omega), hp, hxp]
          rfl
        have RW := Lib.hid (And.intro hrun (And.intro hSP (And.intro hF (And.intro hUr (And.intro hUe (And.intro bxr (And.intro bxe (And.intro hlt' (And.intro hl hek)))))))))
        have CW := Lib.hid (And.intro hbt5 (And.intro hq2 (And.intro bt5 (And.intro hlW4 (And.intro hgW (And.intro h01 (And.intro h14 (And.intro hql h24))))))))
        have hgx : o + x * D = o + p := by rw [hp]
        rw [hgx]
        clear hUW h2n hqb hrb heb htb hz3 hzz hqn hql h24 hitems hkw hlt' hD' hRd' hl hlD hUU hrun hSP hF hUr hUe bxr bxe hbt4 hbt5 hq2 bt5 hlW4 hgW h01 h14 hek hxp hgx hp hS4 hit hcr4 k4 k14 bta b3a b2a k2a ka hS k b3 b2 hq ha hlw
        simp only [List.zip_toArray, List.zip_cons_cons, List.zip_nil_left, List.foldl_toArray', List.foldl_cons, List.foldl_nil, List.setIfInBounds_toArray, List.set_cons_succ, List.set_cons_zero]
        gi_wp2_with (rw [Oper.semAt_eq _ _ _ (fun c h => by cases h)]; go_simp; try go_bits)
        refine ⟨trivial, ?_⟩
        intro W6 kl zl
        have hct6 : W6.cell? ⟨W2.heap.size, 0, none⟩ = some (.pointer (some ⟨bt, 0, none⟩)) := (CW.out.2.2.1.kept kl (fun e => by have h1 := CW.out.2.2.2.1; have h2 := CW.out.2.2.2.2.2.2.2.2; omega)).cell
        have hcq6 : W6.cell? ⟨qb, 2, none⟩ = some (.int .i64 (K : Int)) := (kl.cell (p := ⟨qb, 2, none⟩) (show qb < W5.heap.size by have h1 := CW.out.2.2.2.1; have h2 := CW.out.2.2.2.2.2.2; omega) (fun e => by have e : qb = l := e; have h1 := CW.out.2.2.2.1; have h2 := CW.out.2.2.2.2.2.2; omega)).trans CW.out.2.1
        have KL := Lib.hid (And.intro kl zl)
        clear kl zl
        gi_wp2_with fail
        refine wpW_region_tail 9 (by kernel_rfl) (by kernel_rfl) ?_
        simp only [List.take_succ_cons, List.take_zero, List.drop_succ_cons, List.drop_zero]
        have hKD : K ≤ D := by have := HR.out.2.2.2.2; omega
        have hDne : ¬ (D = K) := by have h1 := HR.out.2.2.2.2; have h2 := HR.out.2.2.1; omega
        iterate 9 (with_reducible refine wpStill_want (by kernel_rfl) (fun K hK => ?_); go_simp; with_reducible refine hK _ ?_; clear hK K)
        refine wpStill_nil ?_
        have kd6 : Kept (fun _ => False) W6 W6.drew := ⟨rfl, rfl, rfl, Nat.le_refl _, fun _ _ _ => rfl⟩
        obtain ⟨hrun, hSP, hF, hUr, hUe, bxr, bxe, hlt', hl, hek⟩ := RW.out
        obtain ⟨hbt5, hq2, bt5, hlW4, hgW, h01, h14, hql, h24⟩ := CW.out
        have kl := KL.out.1
        have hgl : ¬ (g = l) := by omega
        have hby6 := (hbt5.kept kl (fun b' o' e => by cases e; exact hgl)).kept kd6 (fun _ _ _ e => e)
        have hk6 := hby6.sub (i := p) (n := K) (by omega)
        have hv6 := hby6.sub (i := p + K) (n := D - K) (by omega)
        rw [← Nat.add_assoc] at hv6
        have hS6 := hSP.kept kl (fun b' hb' e => by rw [e] at hb'; exact hl (hF l hb').1)
        have hup := ses_upd (c := D) (vc := D - K) (fl := 0) hS6 kd6 hk6 hv6 (fun b' o' e => .inl (fun hb' => by cases e; have h1 := (hF _ hb').1; exact HGU.out _ h1 hgW))
        have HUP := Lib.hid hup
        clear hup hS6 hv6 hk6 hby6 hgl kl hbt5 hq2 bt5 hlW4 hgW h01 h14 hql h24 hrun hSP hF hUr hUe bxr bxe hlt' hl hek kd6
        gi_wp2_with (rw [Oper.semAt_eq _ _ _ (fun c h => by cases h)]; go_simp; try go_bits)
        refine callsIn_WR.2 (HUP.out.mono ?_)
        rintro e W7 ⟨rfl, hS7, k7⟩
        obtain ⟨cd, hcd⟩ : ∃ cd, cd = codeP ⟨nm, kd, K, V, N⟩ (sub b p K) (sub b (p + K) (D - K)) 0 P := ⟨_, rfl⟩
        rw [← hcd]
        have HC := Lib.hid (And.intro hcd (And.intro hS7 k7))
        clear hcd hS7 k7 HUP hct6 hcq6
        by_cases hc0 : cd = 0
        · subst hc0
          gi_wp2_with (rw [Oper.semAt_eq _ _ _ (fun c h => by cases h)]; go_simp; try go_bits)
          obtain ⟨hrun, hSP, hF, hUr, hUe, bxr, bxe, hlt', hl, hek⟩ := RW.out
          obtain ⟨hcd, hS7, k7⟩ := HC.out
          have hDV : D - K = V := by have := HR.out.2.2.2.2; omega
          rw [hDV] at hcd hS7
          obtain ⟨e1, e2, e3, e4, k67⟩ := res_round KL.out.1 KL.out.2 k7 (fun b hb => (hF b hb).1) hlt' hl hlW
          have hnew : (entsB K V b).take (pre ++ [x]).length = (entsB K V b).take pre.length ++ [(sub b p K, sub b (p + K) V)] := by
            rw [List.length_append]
            exact take_snoc' hek
          refine ⟨e1, _, e2, e3, e4, _, _, ?_, hS7, ?_, .inl hUr, .inl hUe, ⟨r0, bxr.kept k67 (fun e => e.elim (fun h => (hF rb h).2.1 rfl) (fun h => hl (h ▸ hUr)))⟩, ⟨e0, bxe.kept k67 (fun e => e.elim (fun h => (hF eb h).2.2 rfl) (fun h => hl (h ▸ hUe)))⟩, ?_⟩
          · rw [hnew, runP_snoc, hrun]
            show (if codeP ⟨nm, kd, K, V, N⟩ (sub b p K) (sub b (p + K) V) 0 P = 0 then _ else _) = _
            rw [← hcd, if_pos rfl]
          · have h1 := hlt' rb hUr
            have h2 := hlt' eb hUe
            have h3 := KL.out.2
            rintro b' (hb' | hb')
            · exact ⟨.inl (hF b' hb').1, (hF b' hb').2⟩
            · exact ⟨.inr hb', by omega, by omega⟩
          · have h1 := hlt' rb hUr
            have h3 := KL.out.2
            have h4 : W.heap.size ≤ rb := by
              by_cases h : W.heap.size ≤ rb
              · exact h
              · exact (HGU.out rb hUr (by omega)).elim
            rintro b' (hb' | hb')
            · by_cases h : W.heap.size ≤ b'
              · exact h
              · exact (HGU.out b' hb' (by omega)).elim
            · omega
        · obtain ⟨hrun, hSP, hF, hUr, hUe, bxr, bxe, hlt', hl, hek⟩ := RW.out
          obtain ⟨hcd, hS7, k7⟩ := HC.out
          obtain ⟨e1, e2, e3, e4, k67⟩ := res_round KL.out.1 KL.out.2 k7 (fun b hb => (hF b hb).1) hlt' hl hlW
          have bxr7 := bxr.kept k67 (fun e => e.elim (fun h => (hF rb h).2.1 rfl) (fun h => hl (h ▸ hUr)))
          have bxe7 := bxe.kept k67 (fun e => e.elim (fun h => (hF eb h).2.2 rfl) (fun h => hl (h ▸ hUe)))
          have bxe8 := bxe7.kept (Kept.one_set W7 ⟨rb, 0, none⟩ (.pointer none)) (fun e => hne e)
          have c1 := bxr7.cell
          have c2 := bxr7.frozen
          have c3 := bxe8.cell
          have c4 := bxe8.frozen
          have HE := Lib.hid (And.intro e1 (And.intro e2 (And.intro e3 (And.intro e4 (And.intro bxr7 bxe7)))))
          clear e1 e2 e3 e4 k67 bxr7 bxe7 bxe8 hrun hSP hF hUr hUe bxr bxe hlt' hl hek hcd hS7 k7
          gi_wp2_with (rw [Oper.semAt_eq _ _ _ (fun c h => by cases h)]; go_simp; try go_bits)
          obtain ⟨hrun, hSP, hF, hUr, hUe, bxr, bxe, hlt', hl, hek⟩ := RW.out
          obtain ⟨e1, e2, e3, e4, bxr7, bxe7⟩ := HE.out
          have hcd := HC.out.1
          have hDV : D - K = V := by have := HR.out.2.2.2.2; omega
          rw [hDV] at hcd
          have k8 : Kept (fun b => b = rb ∨ b = eb) W7 ((W7.setCell ⟨rb, 0, none⟩ (.pointer none)).setCell ⟨eb, 0, none⟩ (.int .i64 2)) := ((Kept.refl _ W7).setCell _ _ (fun _ => .inl rfl)).setCell _ _ (fun _ => .inr rfl)
          have hlr : l ≠ rb ∧ l ≠ eb := ⟨fun h => hl (h ▸ hUr), fun h => hl (h ▸ hUe)⟩
          have hl7 : l < W7.heap.size := e2.lt l (.inr rfl)
          have hz8 := k8.size
          refine ⟨(k8.block l hl7 (fun h => h.elim hlr.1 hlr.2)).trans e1, _, ⟨e2.kept.trans k8 (fun b _ e => ?_), e2.sub, e2.new, fun b hb => Nat.lt_of_lt_of_le (e2.lt b hb) hz8⟩, e3, e4, rfl, ?_, .inl hUr, .inl hUe, (bxr7.set (.pointer none)).kept (Kept.one_set _ ⟨eb, 0, none⟩ (.int .i64 2)) (fun e => hne e.symm), (bxe7.kept (Kept.one_set W7 ⟨rb, 0, none⟩ (.pointer none)) (fun e => hne e)).set (.int .i64 2)⟩
          · rcases e with rfl | rfl
            · exact .inl hUr
            · exact .inl hUe
          · obtain ⟨hel, hee⟩ := List.getElem?_eq_some_iff.1 hek
            have hsp : entsB K V b = (entsB K V b).take pre.length ++ (sub b p K, sub b (p + K) V) :: (entsB K V b).drop (pre.length + 1) := by
              rw [← hee, List.getElem_cons_drop, List.take_append_drop]
            rw [hsp]
            exact runP_stop hrun (by rw [← hcd]; exact hc0)
      · intro items dk U3 W5 hfull hi hkw hRd' hdk hdkn hdkU hUU hUn hUlt
        obtain ⟨P, Fp, hrun, hSP, hF, hUr, hUe, ⟨r0, bxr⟩, ⟨e0, bxe⟩, hUW⟩ := hi
        rw [hfull, List.length_range, List.take_of_length_le (by rw [entsB_len, HR.out.2.2.2.2, ← HB.out.1, HX.out.2.2, Nat.mul_div_cancel _ (by omega)]; exact Nat.le_refl _)] at hrun
        obtain ⟨iv, E, F, hT, rfl, hTF⟩ := hSP
        have hsn := snap_any hT
        have hq4 : W4.heap.size > W2.heap.size := by have := k4.size; omega
        have h2n : ¬ ((W1.heap.size ≤ W2.heap.size ∧ W2.heap.size < W2.heap.size) ∨ W2.heap.size = rb ∨ W2.heap.size = eb) := by
          have := b2.lt
          have := b3.lt
          omega
        have bt5 : Box W5 W2.heap.size (.pointer (some ⟨bt, 0, none⟩)) := (bta.kept k4 (fun e => e)).kept hkw h2n
        have hct5 := bt5.cell
        have hkW : Kept (fun b => W.heap.size ≤ b) W W5 := ((k.trans k14 (fun _ _ e => e)).mono (S' := fun b => W.heap.size ≤ b) (fun _ _ e => e.elim)).trans hkw (fun b _ e => by
          have := k.size
          rcases e with e | rfl | rfl <;> omega)
        have hby5 : BytesAt W5 a T b := ⟨HB.out.1, HB.out.2.1, fun i hi => by
          obtain ⟨b', o', e, hlt, hc⟩ := HB.out.2.2 i hi
          exact ⟨b', o', e, Nat.lt_of_lt_of_le hlt hkW.size, (hkW.cell (p := ⟨b', o' + i, none⟩) hlt (by show ¬ (W.heap.size ≤ b'); omega)).trans hc⟩⟩
        have hdn : W4.heap.size ≤ dk := hdkn
        have h01 := k.size
        have h14 := k14.size
        have hne2 : W2.heap.size ≠ rb ∧ W2.heap.size ≠ eb := ⟨fun e => h2n (.inr (.inl e)), fun e => h2n (.inr (.inr e))⟩
        have HS := Lib.hid (And.intro hsn (And.intro hby5 (And.intro hkW (And.intro hdk (And.intro hdkU (And.intro hUr (And.intro hUe (And.intro bxr (And.intro bxe (And.intro hrun (And.intro hT (And.intro hTF (And.intro hF (And.intro hUW (And.intro hUlt (And.intro bt5 (And.intro hdn (And.intro h01 (And.intro h14 hne2)))))))))))))))))))
        clear hfull hkw hRd' hdk hdkn hdkU hUU hUn hUlt hUW hTF hF hUr hUe bxr bxe hrun hT hsn hq4 h2n bt5 hkW hby5 hS4 hit hcr4 k4 k14 bta b3a b2a k2a ka hS k b3 b2 hq ha hqb hrb heb htb hz3 hzz hdn h01 h14 hne2
        gi_wp2_with fail
        refine callsIn_WR.2 (HS.out.1.mono ?_)
        rintro e W6 ⟨sv, rfl, hown, hfr, k6⟩
        obtain ⟨sa, sc, rfl, -, -, -⟩ := own_form hown
        have hsb := own_bytesAt hown rfl
        have heq := equal_any (c := sc) (d := c) hsb (HS.out.2.1.kept k6 (fun _ _ _ e => e))
        have HQ := Lib.hid (And.intro heq k6)
        obtain ⟨SB, hSB⟩ : ∃ SB, SB = snapB (kvs (ordT ⟨nm, kd, K, V, N⟩ E)) := ⟨_, rfl⟩
        rw [← hSB] at HQ ⊢
        have HSB := Lib.hid hSB
        clear hown hfr k6 hsb heq hSB
        gi_wp2_with fail
        refine callsIn_WR.2 (HQ.out.1.mono ?_)
        rintro e W7 ⟨rfl, rfl⟩
        obtain ⟨-, hby5, hkW, hdk, hdkU, hUr, hUe, bxr, bxe, hrun, hT, hTF, hF, hUW, hUlt, bt5, hdn, h01, h14, hne2⟩ := HS.out
        have k6 := HQ.out.2
        have bxr7 := bxr.kept k6 (fun e => e)
        have bxe7 := bxe.kept k6 (fun e => e)
        have hc1 := bxr7.cell
        have hc2 := bxr7.frozen
        have hkW7 : Kept (fun b => W.heap.size ≤ b) W W7 := hkW.trans k6 (fun _ _ e => e.elim)
        have hdk7 : W7.heap[dk]? = some (.deferred (some [])) := (k6.block dk (Array.getElem?_eq_some_iff.1 hdk).1 (fun e => e)).trans hdk
        have hdr : dk ≠ rb ∧ dk ≠ eb := ⟨fun e => hdkU (e ▸ hUr), fun e => hdkU (e ▸ hUe)⟩
        have hwr := hUW rb hUr
        have hwe := hUW eb hUe
        have hord := kvs_ordT (m := ⟨nm, kd, K, V, N⟩) hT.keys
        have hgood : T % D = 0 ∧ T ≤ D * N := HX.out.1
        by_cases hsame : SB = b
        · have hb1 : (SB.toList == b.toList) = true := by rw [hsame]; exact bytes_self b
          have bxe8 := bxe7.kept (Kept.one_set W7 ⟨rb, 0, none⟩ (.pointer (some ⟨bt, 0, none⟩))) (fun e => hne e)
          have hc3 := bxe8.cell
          have hc4 := bxe8.frozen
          have hc5 := (bt5.kept k6 (fun e => e)).cell
          have HZ := Lib.hid (And.intro hsame (And.intro bxr7 (And.intro bxe7 (And.intro hkW7 (And.intro hdk7 (And.intro hdr (And.intro hwr (And.intro hwe (And.intro hord hgood)))))))))
          clear hsame bxr7 bxe7 hkW7 hdk7 hdr hwr hwe hord hgood bxe8 hby5 hkW hdk hdkU hUr hUe bxr bxe hrun hT hTF hF hUW hUlt bt5 hdn h01 h14 hne2 k6
          gi_wp2_with fail
          obtain ⟨hsame, bxr7, bxe7, hkW7, hdk7, hdr, hwr, hwe, hord, hgood⟩ := HZ.out
          obtain ⟨-, hby5, hkW, hdk, hdkU, hUr, hUe, bxr, bxe, hrun, hT, hTF, hF, hUW, hUlt, bt5, hdn, h01, h14, hne2⟩ := HS.out
          have k8 : Kept (fun b => b = rb ∨ b = eb) W7 ((W7.setCell ⟨rb, 0, none⟩ (.pointer (some ⟨bt, 0, none⟩))).setCell ⟨eb, 0, none⟩ (.int .i64 0)) := ((Kept.refl _ W7).setCell _ _ (fun _ => .inl rfl)).setCell _ _ (fun _ => .inr rfl)
          have bo := (bxr7.set (.pointer (some ⟨bt, 0, none⟩))).kept (Kept.one_set (W7.setCell ⟨rb, 0, none⟩ (.pointer (some ⟨bt, 0, none⟩))) ⟨eb, 0, none⟩ (.int .i64 0)) (fun e => hne e.symm)
          have be := (bxe7.kept (Kept.one_set W7 ⟨rb, 0, none⟩ (.pointer (some ⟨bt, 0, none⟩))) (fun e => hne e)).set (.int .i64 0)
          have hT7 := hT.kept HQ.out.2 (fun _ _ e => e)
          have hT8 := hT7.kept k8 (fun b' hb' e => by
            have h := (hF b' (hTF b' hb')).2
            exact e.elim h.1 h.2)
          refine leaves_marks [dk] _ (by simp) (fun d hd => by rw [List.mem_singleton.1 hd]; exact (k8.block dk (Array.getElem?_eq_some_iff.1 hdk7).1 (fun e => e.elim hdr.1 hdr.2)).trans hdk7) (fun W' kdd => ?_)
          have hnd : ∀ b, U3 b → ¬ (b ∈ [dk]) := fun b hb e => hdkU (by rw [← List.mem_singleton.1 e]; exact hb)
          refine ⟨_, res_results rfl rfl (bo.kept kdd (hnd _ hUr)) (be.kept kdd (hnd _ hUe)), ResPost.yes (P := kvs E) (bt := bt) ?_ ?_ rfl ?_⟩
          · refine Kept.none ((hkW7.trans k8 (fun b' _ e => ?_)).trans kdd (fun b' _ e => by rw [List.mem_singleton.1 e]; omega))
            rcases e with rfl | rfl
            · exact hwr
            · exact hwe
          · unfold resP
            simp only [Int.toNat_natCast]
            rw [hrun, if_pos ⟨HR.out.1, by rw [HR.out.2.2.2.2, ← HB.out.1]; exact hgood.1, by rw [HR.out.2.2.2.2, ← HB.out.1]; exact hgood.2⟩]
            show (if snapB (ordP ⟨nm, kd, K, V, N⟩ (kvs E)) = b then some (kvs E) else none) = some (kvs E)
            rw [hord, ← HSB.out, if_pos hsame]
          · have hT9 := hT8.kept kdd (fun b' hb' e => hnd b' (hF b' (hTF b' hb')).1 e)
            exact ⟨iv, E, F, hT9, rfl, fun b' hb' => ⟨hUW b' (hF b' (hTF b' hb')).1, hT9.lt b' hb'⟩⟩
        · have hb1 : (SB.toList == b.toList) = false := bytes_ne hsame
          have bxe8 := bxe7.kept (Kept.one_set W7 ⟨rb, 0, none⟩ (.pointer none)) (fun e => hne e)
          have hc3 := bxe8.cell
          have hc4 := bxe8.frozen
          have HZ := Lib.hid (And.intro hsame (And.intro bxr7 (And.intro bxe7 (And.intro hkW7 (And.intro hdk7 (And.intro hdr (And.intro hwr (And.intro hwe (And.intro hord (And.intro hrun (And.intro hdn (And.intro h01 h14))))))))))))
          clear hsame bxr7 bxe7 hkW7 hdk7 hdr hwr hwe hord hgood bxe8 hby5 hkW hdk hdkU hUr hUe bxr bxe hrun hT hTF hF hUW hUlt bt5 hdn h01 h14 hne2 k6
          gi_wp2_with fail
          obtain ⟨hsame, bxr7, bxe7, hkW7, hdk7, hdr, hwr, hwe, hord, hrun, hdn, h01, h14⟩ := HZ.out
          refine res_leave_no (ds := [dk]) rfl rfl bxr7 bxe7 hne hkW7 hwr hwe (by simp) (fun d hd => by rw [List.mem_singleton.1 hd]; exact ⟨hdk7, by omega, hdr.1, hdr.2⟩) HR.out.1 ?_
          unfold resP
          simp only [Int.toNat_natCast]
          rw [hrun]
          split
          · show (if snapB (ordP ⟨nm, kd, K, V, N⟩ (kvs E)) = b then some (kvs E) else none) = none
            rw [hord, ← HSB.out, if_neg hsame]
          · rfl
      · rintro cc dk U3 W5 ⟨rfl, hnone, hUr, hUe, bxr, bxe⟩ hkw hRd' hdk hdkn hdkU hUU hUn hUlt
        have hkW : Kept (fun b => W.heap.size ≤ b) W W5 := ((k.trans k14 (fun _ _ e => e)).mono (S' := fun b => W.heap.size ≤ b) (fun _ _ e => e.elim)).trans hkw (fun b _ e => by
          have := k.size
          rcases e with e | rfl | rfl <;> omega)
        have hres : resP ⟨nm, kd, K, V, N⟩ b = none := by
          unfold resP
          simp only [Int.toNat_natCast]
          rw [hnone]
          split <;> rfl
        have h01 := k.size
        have h14 := k14.size
        have H9 := Lib.hid (And.intro hdk (And.intro hdkU (And.intro hUr (And.intro hUe (And.intro bxr (And.intro bxe (And.intro hkW hres)))))))
        have hdn : W4.heap.size ≤ dk := hdkn
        clear hnone hUr hUe bxr bxe hkw hRd' hdk hdkn hdkU hUU hUn hUlt hkW hres hS4 hit hcr4 k4 k14 bta b3a b2a k2a ka hS k b3 b2 hq
        gi_wp2_with fail
        obtain ⟨hdk, hdkU, hUr, hUe, bxr, bxe, hkW, hres⟩ := H9.out
        refine leaves_marks [dk] _ (by simp) (fun d hd => by rw [List.mem_singleton.1 hd]; exact hdk) (fun W' kd => ?_)
        have hnd : ∀ b, U3 b → ¬ (b ∈ [dk]) := fun b hb e => hdkU (by rw [← List.mem_singleton.1 e]; exact hb)
        refine ⟨_, res_results rfl rfl (bxr.kept kd (hnd _ hUr)) (bxe.kept kd (hnd _ hUe)), ResPost.no ?_ hres (by rw [if_pos HR.out.1])⟩
        exact Kept.none (hkW.trans kd (fun b _ e => by rw [List.mem_singleton.1 e]; omega))
end Go.Proofs.YtdkcnigghcbnpaaGreat
