/- What stands under the walks, part B. -/
import Derived.Test.YtjkgimloafpipaaGreatDocC
import Derived.Test.YtjkgimloafpipaaGreatTblE
/- The document's table as ordered pairs: contracts for whoever has one of his own. -/
namespace Go.Proofs.YtjkgimloafpipaaGreat
set_option linter.unusedVariables false
set_option linter.unusedSimpArgs false
open Go.RowKit Go.MapKept

theorem rises_split {E : List En} {k : ByteArray} (h : Rises (fun x : En => x.key) E) (hk : ∀ x ∈ E, x.key ≠ k) : ∃ A B, E = A ++ B ∧ (∀ x ∈ A, keyLt x.key k = true) ∧ (∀ x ∈ B, keyLt k x.key = true) := by
  induction E with
  | nil => exact ⟨[], [], rfl, fun _ h => (by cases h), fun _ h => (by cases h)⟩
  | cons a E ih =>
    obtain ⟨h1, h2⟩ := List.pairwise_cons.1 h
    cases ha : keyLt a.key k with
    | true =>
      obtain ⟨A, B, rfl, hA, hB⟩ := ih h2 (fun x hx => hk x (.tail _ hx))
      refine ⟨a :: A, B, rfl, fun x hx => ?_, hB⟩
      rcases List.mem_cons.1 hx with rfl | hx
      · exact ha
      · exact hA x hx
    | false =>
      refine ⟨[], a :: E, rfl, fun _ h => (by cases h), fun x hx => ?_⟩
      have hka : keyLt k a.key = true := by
        cases hc : keyLt k a.key with
        | true => rfl
        | false => exact (hk a (.head _) (keyLt_total ha hc)).elim
      rcases List.mem_cons.1 hx with rfl | hx
      · exact hka
      · exact keyLt_trans hka (h1 x hx)
theorem kvs_append (A B : List En) : kvs (A ++ B) = kvs A ++ kvs B := by simp [kvs]
theorem kvs_ins {A B : List En} {y : En} (hA : ∀ x ∈ A, keyLt x.key y.key = true) (hB : ∀ x ∈ B, keyLt y.key x.key = true) : kvs (A ++ y :: B) = insK keyP (y.key, y.data) (kvs (A ++ B)) := by
  rw [kvs_append, kvs_append, insK_split (key := keyP) (y := (y.key, y.data)) (fun p hp => ?_) (fun p hp => ?_)]
  · rfl
  · obtain ⟨x, hx, rfl⟩ := List.mem_map.1 hp
    exact hA x hx
  · cases B with
    | nil => cases hp
    | cons b B =>
      have hp : (b.key, b.data) = p := Option.some.inj hp
      rw [← hp]
      exact keyLt_asymm (hB b (.head _))

/-- A table of the document's, of one's own. -/
def RSes (m : TM) (bt : Nat) (Q : List Pr) (Fp : Nat → Prop) (w : World) : Prop := ∃ lv E, RT w bt m lv E ∧ kvs E = Q ∧ ∀ b, Rtfp bt lv E b → Fp b
section
variable {W w w0 w1 : World} {m : TM} {bt : Nat} {Q : List Pr} {Fp Fq : Nat → Prop} {k v : ByteArray} {fl : Int}
theorem RSes.kept {S : Nat → Prop} (h : RSes m bt Q Fp w) (q : Kept S w w1) (hS : ∀ b, Fp b → ¬ S b) : RSes m bt Q Fp w1 := by
  obtain ⟨lv, E, h1, h2, h3⟩ := h
  exact ⟨lv, E, h1.kept q (fun b hb => hS b (h3 b hb)), h2, h3⟩
theorem RSes.keep (h : RSes m bt Q Fp w) (q : Kept (fun _ => False) w w1) : RSes m bt Q Fp w1 := h.kept q (fun _ _ e => e)
theorem RSes.mono (h : RSes m bt Q Fp w) (hF : ∀ b, Fp b → Fq b) : RSes m bt Q Fq w := by
  obtain ⟨lv, E, h1, h2, h3⟩ := h
  exact ⟨lv, E, h1, h2, fun b hb => hF b (h3 b hb)⟩
theorem RSes.bound (h : RSes m bt Q Fp w) : RSes m bt Q (fun b => Fp b ∧ b < w.heap.size) w := by
  obtain ⟨lv, E, h1, h2, h3⟩ := h
  exact ⟨lv, E, h1, h2, fun b hb => ⟨h3 b hb, h1.lt b hb⟩⟩
theorem RSes.right (h : RSes m bt Q Fp w) : m.right = true := by obtain ⟨_, _, h1, _⟩ := h; exact h1.right
theorem RSes.len (h : RSes m bt Q Fp w) : (Q.length : Int) ≤ m.mx := by
  obtain ⟨_, E, h1, rfl, _⟩ := h
  rw [kvs_len]
  exact h1.len
theorem RSes.nodup (h : RSes m bt Q Fp w) : (Q.map (·.1)).Nodup := by
  obtain ⟨_, E, h1, rfl, _⟩ := h
  have := h1.keys
  unfold kvs
  rw [List.map_map]
  exact this
theorem RSes.lt (h : RSes m bt Q Fp w) : bt < w.heap.size := by
  obtain ⟨lv, E, h1, -⟩ := h
  exact h1.row.lt
theorem rses_len (h : RSes m bt Q Fp w) : Calls Tryz.prog 31 #[.pointer (some ⟨bt, 0, none⟩)] w fun e w' => e = .returned (.int .i64 (Q.length : Nat)) ∧ w = w' := by
  obtain ⟨lv, E, h1, rfl, -⟩ := h
  rw [kvs_len]
  exact rt_len h1
theorem rses_new (hr : m.right = true) (hs : m.nm.size ≤ 9223372036854775807) (W : World) : Calls Tryz.prog 34 #[m.v] W fun e w' => ∃ bt, e = .returned (.tuple #[.pointer (some ⟨bt, 0, none⟩), .int .i64 0]) ∧ RSes m bt (newP m) (fun b => W.heap.size ≤ b ∧ b < w'.heap.size) w' ∧ Kept (fun _ => False) W w' := by
  refine (rnew_any (W := W) m hs).mono ?_
  rintro e w' (⟨hf, -⟩ | ⟨-, bt, lv, E, rfl, hT, hE, hF, k⟩)
  · rw [hr] at hf
    cases hf
  exact ⟨bt, rfl, ⟨lv, E, hT, hE, fun b hb => ⟨hF b hb, hT.lt b hb⟩⟩, k⟩
theorem rses_upd (h : RSes m bt Q Fp w) (hks : k.size ≤ 9223372036854775807) (hvs : v.size ≤ 9223372036854775807) :
    Calls Tryz.prog 24 #[.pointer (some ⟨bt, 0, none⟩), .string k, .string v, .int .i64 fl] w fun e w' => e = .returned (.int .i64 (codeP m k v fl Q)) ∧ RSes m bt (rupdP m k v fl Q) (fun b => Fp b ∨ (w.heap.size ≤ b ∧ b < w'.heap.size)) w' ∧ Kept Fp w w' := by
  obtain ⟨lv, E, hT, rfl, hF⟩ := h
  have h3 := (rightB_iff _ _ _ _ _).1 hT.right
  have same : ∀ w', Kept (fun _ => False) w w' → ∀ c, codeP m k v fl (kvs E) = c → c ≠ 0 → RSes m bt (rupdP m k v fl (kvs E)) (fun b => Fp b ∨ (w.heap.size ≤ b ∧ b < w'.heap.size)) w' ∧ Kept Fp w w' := by
    intro w' q c hc hn
    have e : rupdP m k v fl (kvs E) = kvs E := by unfold rupdP; rw [hc, if_neg hn]
    rw [e]
    exact ⟨⟨lv, E, hT.keep q, rfl, fun b hb => .inl (hF b hb)⟩, kF q⟩
  by_cases hw : (k.size : Int) ≠ m.ks ∨ (v.size : Int) ≠ m.vs ∨ fl < 0 ∨ 2 < fl
  · have hc : codeP m k v fl (kvs E) = 1 := by unfold codeP; rw [if_pos hw]
    refine (rupd_wrong hT hks hvs hw).mono ?_
    rintro e w' ⟨rfl, rfl⟩
    exact ⟨by rw [hc], same _ (.refl _ _) _ hc (by decide)⟩
  · have hk1 : (k.size : Int) = m.ks := by omega
    have hv1 : (v.size : Int) = m.vs := by omega
    have hf0 : 0 ≤ fl ∧ fl ≤ 2 := by omega
    have hlk := kvs_look k E
    rcases split_en hT.keys k with ⟨e1, e2, e3⟩ | ⟨l1, x, l2, rfl, hk, e1, e2⟩
    · rw [e1] at hlk
      have hns : ¬ (lookP k (kvs E)).isSome = true := by rw [hlk]; simp
      by_cases hn3 : fl = 2 ∨ (fl ≠ 2 ∧ m.kd = 1)
      · have hc : codeP m k v fl (kvs E) = 3 := by
          unfold codeP addCP
          rw [if_neg hw, if_neg hns]
          rcases hn3 with h | ⟨h, h'⟩
          · rw [if_pos h]
          · rw [if_neg h, if_pos h']
        refine (rupd_none hT e2 hk1 hv1 hf0 hn3).mono ?_
        rintro e w' ⟨rfl, rfl⟩
        exact ⟨by rw [hc], same _ (.refl _ _) _ hc (by decide)⟩
      · have hf2 : fl ≠ 2 := fun e => hn3 (.inl e)
        have hk1' : m.kd ≠ 1 := fun e => hn3 (.inr ⟨hf2, e⟩)
        have hf01 : fl = 0 ∨ fl = 1 := by omega
        by_cases hfull : m.kd = 2 ∧ m.mx ≤ (E.length : Int)
        · have hc : codeP m k v fl (kvs E) = 5 := by
            unfold codeP addCP
            rw [if_neg hw, if_neg hns, if_neg hf2, if_neg hk1', kvs_len, if_pos hfull]
          refine (rupd_full hT e2 hk1 hv1 hf01 hfull.1 hfull.2).mono ?_
          rintro e w' ⟨rfl, n, rfl⟩
          exact ⟨by rw [hc], same _ ((Kept.refl _ _).drewN n) _ hc (by decide)⟩
        · have hc : codeP m k v fl (kvs E) = 0 := by
            unfold codeP addCP
            rw [if_neg hw, if_neg hns, if_neg hf2, if_neg hk1', kvs_len, if_neg hfull]
          have hrp : rupdP m k v fl (kvs E) = raddP m (k, v) (kvs E) := by
            unfold rupdP
            rw [hc, if_pos rfl, if_neg hns]
          obtain ⟨A, B, hAB, hA, hB, hL, hlist⟩ : ∃ A B, E = A ++ B ∧ (m.kd = 2 → ∀ x ∈ A, keyLt x.key k = true) ∧ (m.kd = 2 → ∀ x ∈ B, keyLt k x.key = true) ∧ (m.kd = 2 ∨ (m.kd = 3 ∧ B = [])) ∧
              ∀ y : En, y.key = k → y.data = v → kvs (if (E.length : Int) + 1 ≤ m.mx then A ++ y :: B else (A ++ y :: B).tail) = raddP m (k, v) (kvs E) := by
            rcases (by omega : m.kd = 2 ∨ m.kd = 3) with h2 | h2
            · obtain ⟨A, B, hAB, hA, hB⟩ := rises_split (hT.rise h2) e2
              refine ⟨A, B, hAB, fun _ => hA, fun _ => hB, .inl h2, fun y hyk hyv => ?_⟩
              have hlt : ¬ m.mx ≤ (E.length : Int) := fun h => hfull ⟨h2, h⟩
              unfold raddP
              rw [if_pos (by omega), if_pos h2, kvs_ins (by rw [hyk]; exact hA) (by rw [hyk]; exact hB), ← hAB, hyk, hyv]
            · refine ⟨E, [], by simp, fun e => by omega, fun e => by omega, .inr ⟨h2, rfl⟩, fun y hyk hyv => ?_⟩
              have h2' : ¬ m.kd = 2 := by omega
              unfold raddP addP
              rw [if_neg h2', kvs_len]
              by_cases hle : (E.length : Int) + 1 ≤ m.mx
              · rw [if_pos hle, if_pos hle, kvs_append]
                show kvs E ++ [(y.key, y.data)] = kvs E ++ [(k, v)]
                rw [hyk, hyv]
              · rw [if_neg hle, if_neg hle]
                cases E with
                | nil =>
                  simp at hle
                  omega
                | cons a E =>
                  show kvs (E ++ [y]) = kvs E ++ [(k, v)]
                  rw [kvs_append]
                  show kvs E ++ [(y.key, y.data)] = _
                  rw [hyk, hyv]
          subst hAB
          refine (rupd_new hT e2 hk1 hv1 hf01 hL hA hB (fun h2 => by have : ¬ m.mx ≤ ((A ++ B).length : Int) := fun h => hfull ⟨h2, h⟩; omega)).mono ?_
          rintro e w' ⟨rfl, lv', y, hyb, hyd, hyk, hyv, hT', k', hf'⟩
          refine ⟨by rw [hc], ⟨lv', _, hT', by rw [hrp]; exact hlist y hyk hyv, fun b hb => ?_⟩, k'.mono fun b _ e => hF b (.inl e)⟩
          have hlt := hT'.lt b hb
          rcases hb with rfl | hb | ⟨x, hx, hb⟩
          · exact .inl (hF _ (.inl rfl))
          · exact .inr ⟨hf' b hb, hlt⟩
          · have hx' : x ∈ A ++ y :: B := by
              split at hx
              · exact hx
              · exact List.mem_of_mem_tail hx
            have : x = y ∨ x ∈ A ++ B := by
              rcases List.mem_append.1 hx' with h | h
              · exact .inr (List.mem_append_left _ h)
              · rcases List.mem_cons.1 h with h | h
                · exact .inl h
                · exact .inr (List.mem_append_right _ h)
            rcases this with rfl | h
            · exact .inr ⟨by rcases hb with rfl | rfl <;> omega, hlt⟩
            · exact .inl (hF b (.inr (.inr ⟨x, h, hb⟩)))
    · rw [e1] at hlk
      subst hk
      have hs : (lookP x.key (kvs (l1 ++ x :: l2))).isSome = true := by rw [hlk]; rfl
      have hn1 : ∀ y ∈ l1, y.key ≠ x.key := by
        have hn := hT.keys
        rw [List.map_append, List.map_cons] at hn
        intro y hy e
        exact (List.nodup_append.1 hn).2.2 _ (List.mem_map_of_mem hy) x.key (by simp) e
      by_cases hf1 : fl = 1
      · subst hf1
        have hc : codeP m x.key v 1 (kvs (l1 ++ x :: l2)) = 4 := by unfold codeP; rw [if_neg hw, if_pos hs, if_pos rfl]
        refine (rupd_exist hT hn1 hk1 hv1).mono ?_
        rintro e w' ⟨rfl, rfl⟩
        exact ⟨by rw [hc], same _ (.refl _ _) _ hc (by decide)⟩
      · have hc : codeP m x.key v fl (kvs (l1 ++ x :: l2)) = 0 := by unfold codeP; rw [if_neg hw, if_pos hs, if_neg hf1]
        have hrp : rupdP m x.key v fl (kvs (l1 ++ x :: l2)) = kvs (setT x.key v (useT m x.key (l1 ++ x :: l2))) := by
          unfold rupdP
          rw [hc, if_pos rfl, if_pos hs, kvs_use, kvs_set]
        have hu : useT m x.key (l1 ++ x :: l2) = if m.kd = 3 then l1 ++ l2 ++ [x] else l1 ++ x :: l2 := by unfold useT; rw [e1, e2]
        refine (rupd_there hT hn1 hk1 hv1 (by omega)).mono ?_
        rintro e w' ⟨rfl, lv', hT', k', hf'⟩
        rw [← hu] at hT'
        have hxm : x ∈ l1 ++ x :: l2 := by simp
        refine ⟨by rw [hc], ⟨lv', _, hT', hrp.symm, fun b hb => ?_⟩, k'.mono fun b _ e => ?_⟩
        · have hlt := hT'.lt b hb
          rcases hb with rfl | hb | ⟨z, hz, hb⟩
          · exact .inl (hF _ (.inl rfl))
          · rcases hf' b hb with e | e
            · exact .inl (hF _ (.inr (.inl e)))
            · exact .inr ⟨e, hlt⟩
          · obtain ⟨z0, h0, b1, b2⟩ := setT_blocks hz
            exact .inl (hF b (.inr (.inr ⟨z0, useT_mem h0, by rw [← b1, ← b2]; exact hb⟩)))
        · rcases e with rfl | rfl
          · exact hF _ (.inl rfl)
          · exact hF _ (.inr (.inr ⟨x, hxm, .inr rfl⟩))
end
end Go.Proofs.YtjkgimloafpipaaGreat

/- A table, and the document's beside it. -/
namespace Go.Proofs.YtjkgimloafpipaaGreat
set_option linter.unusedVariables false
set_option linter.unusedSimpArgs false
open Go.RowKit Go.MapKept

/-- A new table is in order. -/
theorem newP_ord (m : TM) : ordP m (newP m) = newP m := by
  unfold ordP newP
  split
  · rename_i h
    rw [if_neg (by omega)]
    rfl
  · rfl
/-- A table bt (P) and the document's br (Q): apart from each other, and from the blocks X. -/
structure D2 (W0 : World) (m : TM) (bt br : Nat) (X : Nat → Prop) (P Q : List Pr) (w : World) : Prop where
  ex : ∃ Ft Fr, Ses m bt P Ft w ∧ RSes m br Q Fr w ∧ (∀ b, Ft b → ¬ Fr b) ∧ ∀ b, Ft b ∨ Fr b → W0.heap.size ≤ b ∧ b < w.heap.size ∧ ¬ X b
  back : Kept (fun _ => False) W0 w
section
variable {W0 w w0 w1 : World} {m : TM} {bt br : Nat} {X Y S : Nat → Prop} {P Q : List Pr} {a va : Option Addr} {l c vl vc : Nat} {k v : ByteArray} {fl : Int}
theorem D2.keepX (h : D2 W0 m bt br X P Q w) (q : Kept S w w1) (hS : ∀ b, S b → (X b ∧ W0.heap.size ≤ b) ∨ w.heap.size ≤ b) : D2 W0 m bt br X P Q w1 := by
  obtain ⟨Ft, Fr, h1, h2, h3, h4⟩ := h.ex
  have hz := q.size
  have hb := h.back.size
  have hn : ∀ b, Ft b ∨ Fr b → ¬ S b := fun b hb e => by
    have := h4 b hb
    rcases hS b e with e | e
    · exact this.2.2 e.1
    · omega
  exact ⟨⟨Ft, Fr, h1.kept q (fun b hb => hn b (.inl hb)), h2.kept q (fun b hb => hn b (.inr hb)), h3, fun b hb => by have := h4 b hb; exact ⟨this.1, by omega, this.2.2⟩⟩, h.back.trans q (fun b hb e => by rcases hS b e with e | e <;> omega)⟩
theorem D2.keep (h : D2 W0 m bt br X P Q w) (q : Kept (fun _ => False) w w1) : D2 W0 m bt br X P Q w1 := h.keepX q (fun _ e => e.elim)
theorem D2.more (h : D2 W0 m bt br X P Q w) (hY : ∀ b, Y b → X b ∨ w.heap.size ≤ b) : D2 W0 m bt br Y P Q w := by
  obtain ⟨Ft, Fr, h1, h2, h3, h4⟩ := h.ex
  refine ⟨⟨Ft, Fr, h1, h2, h3, fun b hb => ?_⟩, h.back⟩
  have := h4 b hb
  refine ⟨this.1, this.2.1, fun e => ?_⟩
  rcases hY b e with e | e
  · exact this.2.2 e
  · omega
theorem D2.low {W : World} (h : D2 W0 m bt br X P Q w) (q : Kept (fun _ => False) W W0) : D2 W m bt br X P Q w := by
  obtain ⟨Ft, Fr, h1, h2, h3, h4⟩ := h.ex
  have := q.size
  exact ⟨⟨Ft, Fr, h1, h2, h3, fun b hb => by have := h4 b hb; exact ⟨by omega, this.2⟩⟩, q.trans h.back (fun _ _ e => e)⟩
theorem D2.nodup (h : D2 W0 m bt br X P Q w) : (P.map (·.1)).Nodup := by obtain ⟨Ft, Fr, h1, -⟩ := h.ex; exact h1.nodup
theorem D2.right (h : D2 W0 m bt br X P Q w) : m.right = true := by obtain ⟨Ft, Fr, h1, -⟩ := h.ex; exact h1.right
theorem D2.len (h : D2 W0 m bt br X P Q w) : (P.length : Int) ≤ m.mx := by obtain ⟨Ft, Fr, h1, -⟩ := h.ex; exact h1.len
theorem d2_start {W0 w1 w2 : World} (hs : Ses m bt P (fun b => W0.heap.size ≤ b ∧ b < w1.heap.size) w1) (k1 : Kept (fun _ => False) W0 w1) (hr : RSes m br Q (fun b => w1.heap.size ≤ b ∧ b < w2.heap.size) w2) (k2 : Kept (fun _ => False) w1 w2) : D2 W0 m bt br (fun _ => False) P Q w2 := by
  have h1 := k1.size
  have h2 := k2.size
  exact ⟨⟨_, _, hs.keep k2, hr, fun b hb e => by omega, fun b hb => ⟨by omega, by omega, fun e => e⟩⟩, k1.trans k2 (fun _ _ e => e)⟩
theorem d2_upd1 (h : D2 W0 m bt br X P Q w0) (hX : ∀ b, X b → b < w0.heap.size) (q : Kept (fun _ => False) w0 w1) (hk : BytesAt w1 a l k) (hv : BytesAt w1 va vl v) (hva : ∀ b o, va = some ⟨b, o, none⟩ → w0.heap.size ≤ b ∨ X b) :
    Calls Tryz.prog 23 #[.pointer (some ⟨bt, 0, none⟩), .slice a l c, .slice va vl vc, .int .i64 fl] w1 fun e w' => e = .returned (.int .i64 (codeP m k v fl P)) ∧ D2 W0 m bt br X (updP m k v fl P) Q w' ∧ Kept (fun b => W0.heap.size ≤ b ∧ b < w0.heap.size ∧ ¬ X b) w0 w' := by
  obtain ⟨Ft, Fr, h1, h2, h3, h4⟩ := h.ex
  have hz := q.size
  have hb := h.back.size
  refine (ses_upd (c := c) (vc := vc) (fl := fl) h1 q hk hv (fun b o e => ?_)).mono ?_
  · rcases hva b o e with e | e
    · exact .inr e
    · exact .inl (fun hf => (h4 b (.inl hf)).2.2 e)
  rintro e w' ⟨rfl, hs, kk⟩
  have hkz := kk.size
  have kk0 : Kept Ft w0 w' := (kF q).trans kk (fun _ _ e => e)
  refine ⟨rfl, ⟨⟨_, Fr, hs, h2.kept kk0 (fun b hb e => h3 b e hb), fun b hb e => ?_, fun b hb => ?_⟩, h.back.trans kk0 (fun b hb e => by have := (h4 b (.inl e)).1; omega)⟩, kk0.mono (fun b _ e => h4 b (.inl e))⟩
  · rcases hb with hb | hb
    · exact h3 b hb e
    · have := (h4 b (.inr e)).2.1; omega
  · rcases hb with (hb | hb) | hb
    · have := h4 b (.inl hb); exact ⟨this.1, by omega, this.2.2⟩
    · exact ⟨by omega, hb.2, fun e => by have := hX b e; omega⟩
    · have := h4 b (.inr hb); exact ⟨this.1, by omega, this.2.2⟩
theorem d2_upd2 (h : D2 W0 m bt br X P Q w0) (hX : ∀ b, X b → b < w0.heap.size) (q : Kept (fun _ => False) w0 w1) (hks : k.size ≤ 9223372036854775807) (hvs : v.size ≤ 9223372036854775807) :
    Calls Tryz.prog 24 #[.pointer (some ⟨br, 0, none⟩), .string k, .string v, .int .i64 fl] w1 fun e w' => e = .returned (.int .i64 (codeP m k v fl Q)) ∧ D2 W0 m bt br X P (rupdP m k v fl Q) w' ∧ Kept (fun b => W0.heap.size ≤ b ∧ b < w0.heap.size ∧ ¬ X b) w0 w' := by
  obtain ⟨Ft, Fr, h1, h2, h3, h4⟩ := h.ex
  have hz := q.size
  have hb := h.back.size
  refine (rses_upd (fl := fl) (h2.keep q) hks hvs).mono ?_
  rintro e w' ⟨rfl, hs, kk⟩
  have hkz := kk.size
  have kk0 : Kept Fr w0 w' := (kF q).trans kk (fun _ _ e => e)
  refine ⟨rfl, ⟨⟨Ft, _, h1.kept kk0 (fun b hb e => h3 b hb e), hs, fun b hb e => ?_, fun b hb => ?_⟩, h.back.trans kk0 (fun b hb e => by have := (h4 b (.inr e)).1; omega)⟩, kk0.mono (fun b _ e => h4 b (.inr e))⟩
  · rcases e with e | e
    · exact h3 b hb e
    · have := (h4 b (.inl hb)).2.1; omega
  · rcases hb with hb | hb | hb
    · have := h4 b (.inl hb); exact ⟨this.1, by omega, this.2.2⟩
    · have := h4 b (.inr hb); exact ⟨this.1, by omega, this.2.2⟩
    · exact ⟨by omega, hb.2, fun e => by have := hX b e; omega⟩
theorem d2_len2 (h : D2 W0 m bt br X P Q w) : Calls Tryz.prog 31 #[.pointer (some ⟨br, 0, none⟩)] w fun e w' => e = .returned (.int .i64 (Q.length : Nat)) ∧ w = w' := by
  obtain ⟨Ft, Fr, h1, h2, -⟩ := h.ex
  exact rses_len h2
theorem d2_len1 (h : D2 W0 m bt br X P Q w) : Calls Tryz.prog 20 #[.pointer (some ⟨bt, 0, none⟩)] w fun e w' => e = .returned (.int .i64 (P.length : Nat)) ∧ Kept (fun _ => False) w w' := by
  obtain ⟨Ft, Fr, h1, h2, -⟩ := h.ex
  exact ses_len h1
end
end Go.Proofs.YtjkgimloafpipaaGreat
