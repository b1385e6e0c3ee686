/- The document's table as ordered pairs: contracts for whoever has one of his own. -/
import Derived.Test.YtalahbmahpgkeaaRefIns
namespace Go.Proofs.Ytalahbmahpgkeaa
set_option linter.unusedVariables false
set_option linter.unusedSimpArgs false
open Go.RowKit Go.MapKept

theorem rises_split {E : List En} {k : ByteArray} (h : Rises (fun x : En => x.key) E) (hk : ∀ x ∈ E, x.key ≠ k) : ∃ A B, E = A ++ B ∧ (∀ x ∈ A, keyLt x.key k = true) ∧ (∀ x ∈ B, keyLt k x.key = true) := by
  induction E with
  | nil => exact ⟨[], [], rfl, fun _ h => (by cases h), fun _ h => (by cases h)⟩
  | cons a E ih =>
    obtain ⟨h1, h2⟩ := List.pairwise_cons.1 h
    cases ha : keyLt a.key k with
    | true =>
      obtain ⟨A, B, rfl, hA, hB⟩ := ih h2 (fun x hx => hk x (.tail _ hx))
      refine ⟨a :: A, B, rfl, fun x hx => ?_, hB⟩
      rcases List.mem_cons.1 hx with rfl | hx
      · exact ha
      · exact hA x hx
    | false =>
      refine ⟨[], a :: E, rfl, fun _ h => (by cases h), fun x hx => ?_⟩
      have hka : keyLt k a.key = true := by
        cases hc : keyLt k a.key with
        | true => rfl
        | false => exact (hk a (.head _) (keyLt_total ha hc)).elim
      rcases List.mem_cons.1 hx with rfl | hx
      · exact hka
      · exact keyLt_trans hka (h1 x hx)
theorem kvs_append (A B : List En) : kvs (A ++ B) = kvs A ++ kvs B := by simp [kvs]
theorem kvs_ins {A B : List En} {y : En} (hA : ∀ x ∈ A, keyLt x.key y.key = true) (hB : ∀ x ∈ B, keyLt y.key x.key = true) : kvs (A ++ y :: B) = insK keyP (y.key, y.data) (kvs (A ++ B)) := by
  rw [kvs_append, kvs_append, insK_split (key := keyP) (y := (y.key, y.data)) (fun p hp => ?_) (fun p hp => ?_)]
  · rfl
  · obtain ⟨x, hx, rfl⟩ := List.mem_map.1 hp
    exact hA x hx
  · cases B with
    | nil => cases hp
    | cons b B =>
      have hp : (b.key, b.data) = p := Option.some.inj hp
      rw [← hp]
      exact keyLt_asymm (hB b (.head _))

/-- A table of the document's, of one's own. -/
def RSes (m : TM) (bt : Nat) (Q : List Pr) (Fp : Nat → Prop) (w : World) : Prop := ∃ lv E, RT w bt m lv E ∧ kvs E = Q ∧ ∀ b, Rtfp bt lv E b → Fp b
section
variable {W w w0 w1 : World} {m : TM} {bt : Nat} {Q : List Pr} {Fp Fq : Nat → Prop} {k v : ByteArray} {fl : Int}
theorem RSes.kept {S : Nat → Prop} (h : RSes m bt Q Fp w) (q : Kept S w w1) (hS : ∀ b, Fp b → ¬ S b) : RSes m bt Q Fp w1 := by
  obtain ⟨lv, E, h1, h2, h3⟩ := h
  exact ⟨lv, E, h1.kept q (fun b hb => hS b (h3 b hb)), h2, h3⟩
theorem RSes.keep (h : RSes m bt Q Fp w) (q : Kept (fun _ => False) w w1) : RSes m bt Q Fp w1 := h.kept q (fun _ _ e => e)
theorem RSes.mono (h : RSes m bt Q Fp w) (hF : ∀ b, Fp b → Fq b) : RSes m bt Q Fq w := by
  obtain ⟨lv, E, h1, h2, h3⟩ := h
  exact ⟨lv, E, h1, h2, fun b hb => hF b (h3 b hb)⟩
theorem RSes.bound (h : RSes m bt Q Fp w) : RSes m bt Q (fun b => Fp b ∧ b < w.heap.size) w := by
  obtain ⟨lv, E, h1, h2, h3⟩ := h
  exact ⟨lv, E, h1, h2, fun b hb => ⟨h3 b hb, h1.lt b hb⟩⟩
theorem RSes.right (h : RSes m bt Q Fp w) : m.right = true := by obtain ⟨_, _, h1, _⟩ := h; exact h1.right
theorem RSes.len (h : RSes m bt Q Fp w) : (Q.length : Int) ≤ m.mx := by
  obtain ⟨_, E, h1, rfl, _⟩ := h
  rw [kvs_len]
  exact h1.len
theorem RSes.nodup (h : RSes m bt Q Fp w) : (Q.map (·.1)).Nodup := by
  obtain ⟨_, E, h1, rfl, _⟩ := h
  have := h1.keys
  unfold kvs
  rw [List.map_map]
  exact this
theorem RSes.lt (h : RSes m bt Q Fp w) : bt < w.heap.size := by
  obtain ⟨lv, E, h1, -⟩ := h
  exact h1.row.lt
theorem rses_len (h : RSes m bt Q Fp w) : Calls Try.prog 28 #[.pointer (some ⟨bt, 0, none⟩)] w fun e w' => e = .returned (.int .i64 (Q.length : Nat)) ∧ w = w' := by
  obtain ⟨lv, E, h1, rfl, -⟩ := h
  rw [kvs_len]
  exact rt_len h1
theorem rses_new (hr : m.right = true) (hs : m.nm.size ≤ 9223372036854775807) (W : World) : Calls Try.prog 26 #[m.v] W fun e w' => ∃ bt, e = .returned (.tuple #[.pointer (some ⟨bt, 0, none⟩), .int .i64 0]) ∧ RSes m bt (newP m) (fun b => W.heap.size ≤ b ∧ b < w'.heap.size) w' ∧ Kept (fun _ => False) W w' := by
  refine (rnew_any (W := W) m hs).mono ?_
  rintro e w' (⟨hf, -⟩ | ⟨-, bt, lv, E, rfl, hT, hE, hF, k⟩)
  · rw [hr] at hf
    cases hf
  exact ⟨bt, rfl, ⟨lv, E, hT, hE, fun b hb => ⟨hF b hb, hT.lt b hb⟩⟩, k⟩
theorem rses_look (h : RSes m bt Q Fp w) (k : ByteArray) :
    Calls Try.prog 30 #[.pointer (some ⟨bt, 0, none⟩), .string k] w fun e w' => ∃ x, e = .returned (.tuple #[x, .bool (lookP k Q).isSome]) ∧ RSes m bt (useP m k Q) (fun b => Fp b ∨ (w.heap.size ≤ b ∧ b < w'.heap.size)) w' ∧ Found w' Fp k (lookP k Q) x ∧ Kept Fp w w' := by
  obtain ⟨lv, E, hT, rfl, hF⟩ := h
  refine (rt_look hT k).mono ?_
  rintro e w' ⟨rfl, lv', h2, h3, h4⟩
  refine ⟨_, by rw [kvs_some], ⟨lv', useT m k E, h2, (kvs_use m k E).symm, ?_⟩, ?_, h3.mono fun b _ e => hF b (.inl e)⟩
  · intro b hb
    have hlt := h2.lt b hb
    rcases hb with rfl | hf | ⟨x, hx, hb⟩
    · exact .inl (hF _ (.inl rfl))
    · rcases h4 b hf with e | e
      · exact .inl (hF _ (.inr (.inl e)))
      · exact .inr ⟨e, hlt⟩
    · exact .inl (hF b (.inr (.inr ⟨x, useT_mem hx, hb⟩)))
  · rw [kvs_look]
    cases hx : lookT k E with
    | none => exact rfl
    | some x =>
      obtain ⟨hxm, hxk⟩ := lookT_some hx
      exact ⟨x, rfl, h2.en x ((useT_perm hT.keys m k).mem_iff.2 hxm), hxk, rfl, (blocks_ne hT.blocks hxm hxm).1, hF _ (.inr (.inr ⟨x, hxm, .inl rfl⟩)), hF _ (.inr (.inr ⟨x, hxm, .inr rfl⟩))⟩
theorem rses_del (h : RSes m bt Q Fp w) (k : ByteArray) (hk : k.size ≤ 9223372036854775807) :
    Calls Try.prog 31 #[.pointer (some ⟨bt, 0, none⟩), .string k] w fun e w' => e = .returned (.int .i64 (delCP m k Q)) ∧ RSes m bt (delP m k Q) (fun b => Fp b ∨ (w.heap.size ≤ b ∧ b < w'.heap.size)) w' ∧ Kept Fp w w' := by
  obtain ⟨lv, E, hT, rfl, hF⟩ := h
  refine (rt_del hT k hk).mono ?_
  rintro e w' ⟨rfl, lv', h2, h3, h4⟩
  refine ⟨by rw [kvs_delC], ⟨lv', delE m k E, h2, (kvs_del m k E).symm, ?_⟩, h3.mono fun b _ e => hF b (.inl e)⟩
  intro b hb
  have hlt := h2.lt b hb
  rcases hb with rfl | hf | ⟨x, hx, hb⟩
  · exact .inl (hF _ (.inl rfl))
  · rcases h4 b hf with e | e
    · exact .inl (hF _ (.inr (.inl e)))
    · exact .inr ⟨e, hlt⟩
  · exact .inl (hF b (.inr (.inr ⟨x, delE_mem hx, hb⟩)))
theorem rses_upd (h : RSes m bt Q Fp w) (hks : k.size ≤ 9223372036854775807) (hvs : v.size ≤ 9223372036854775807) :
    Calls Try.prog 27 #[.pointer (some ⟨bt, 0, none⟩), .string k, .string v, .int .i64 fl] w fun e w' => e = .returned (.int .i64 (codeP m k v fl Q)) ∧ RSes m bt (rupdP m k v fl Q) (fun b => Fp b ∨ (w.heap.size ≤ b ∧ b < w'.heap.size)) w' ∧ Kept Fp w w' := by
  obtain ⟨lv, E, hT, rfl, hF⟩ := h
  have h3 := (rightB_iff _ _ _ _ _).1 hT.right
  have same : ∀ w', Kept (fun _ => False) w w' → ∀ c, codeP m k v fl (kvs E) = c → c ≠ 0 → RSes m bt (rupdP m k v fl (kvs E)) (fun b => Fp b ∨ (w.heap.size ≤ b ∧ b < w'.heap.size)) w' ∧ Kept Fp w w' := by
    intro w' q c hc hn
    have e : rupdP m k v fl (kvs E) = kvs E := by unfold rupdP; rw [hc, if_neg hn]
    rw [e]
    exact ⟨⟨lv, E, hT.keep q, rfl, fun b hb => .inl (hF b hb)⟩, kF q⟩
  by_cases hw : (k.size : Int) ≠ m.ks ∨ (v.size : Int) ≠ m.vs ∨ fl < 0 ∨ 2 < fl
  · have hc : codeP m k v fl (kvs E) = 1 := by unfold codeP; rw [if_pos hw]
    refine (rupd_wrong hT hks hvs hw).mono ?_
    rintro e w' ⟨rfl, rfl⟩
    exact ⟨by rw [hc], same _ (.refl _ _) _ hc (by decide)⟩
  · have hk1 : (k.size : Int) = m.ks := by omega
    have hv1 : (v.size : Int) = m.vs := by omega
    have hf0 : 0 ≤ fl ∧ fl ≤ 2 := by omega
    have hlk := kvs_look k E
    rcases split_en hT.keys k with ⟨e1, e2, e3⟩ | ⟨l1, x, l2, rfl, hk, e1, e2⟩
    · rw [e1] at hlk
      have hns : ¬ (lookP k (kvs E)).isSome = true := by rw [hlk]; simp
      by_cases hn3 : fl = 2 ∨ (fl ≠ 2 ∧ m.kd = 1)
      · have hc : codeP m k v fl (kvs E) = 3 := by
          unfold codeP addCP
          rw [if_neg hw, if_neg hns]
          rcases hn3 with h | ⟨h, h'⟩
          · rw [if_pos h]
          · rw [if_neg h, if_pos h']
        refine (rupd_none hT e2 hk1 hv1 hf0 hn3).mono ?_
        rintro e w' ⟨rfl, rfl⟩
        exact ⟨by rw [hc], same _ (.refl _ _) _ hc (by decide)⟩
      · have hf2 : fl ≠ 2 := fun e => hn3 (.inl e)
        have hk1' : m.kd ≠ 1 := fun e => hn3 (.inr ⟨hf2, e⟩)
        have hf01 : fl = 0 ∨ fl = 1 := by omega
        by_cases hfull : m.kd = 2 ∧ m.mx ≤ (E.length : Int)
        · have hc : codeP m k v fl (kvs E) = 5 := by
            unfold codeP addCP
            rw [if_neg hw, if_neg hns, if_neg hf2, if_neg hk1', kvs_len, if_pos hfull]
          refine (rupd_full hT e2 hk1 hv1 hf01 hfull.1 hfull.2).mono ?_
          rintro e w' ⟨rfl, n, rfl⟩
          exact ⟨by rw [hc], same _ ((Kept.refl _ _).drewN n) _ hc (by decide)⟩
        · have hc : codeP m k v fl (kvs E) = 0 := by
            unfold codeP addCP
            rw [if_neg hw, if_neg hns, if_neg hf2, if_neg hk1', kvs_len, if_neg hfull]
          have hrp : rupdP m k v fl (kvs E) = raddP m (k, v) (kvs E) := by
            unfold rupdP
            rw [hc, if_pos rfl, if_neg hns]
          obtain ⟨A, B, hAB, hA, hB, hL, hlist⟩ : ∃ A B, E = A ++ B ∧ (m.kd = 2 → ∀ x ∈ A, keyLt x.key k = true) ∧ (m.kd = 2 → ∀ x ∈ B, keyLt k x.key = true) ∧ (m.kd = 2 ∨ (m.kd = 3 ∧ B = [])) ∧
              ∀ y : En, y.key = k → y.data = v → kvs (if (E.length : Int) + 1 ≤ m.mx then A ++ y :: B else (A ++ y :: B).tail) = raddP m (k, v) (kvs E) := by
            rcases (by omega : m.kd = 2 ∨ m.kd = 3) with h2 | h2
            · obtain ⟨A, B, hAB, hA, hB⟩ := rises_split (hT.rise h2) e2
              refine ⟨A, B, hAB, fun _ => hA, fun _ => hB, .inl h2, fun y hyk hyv => ?_⟩
              have hlt : ¬ m.mx ≤ (E.length : Int) := fun h => hfull ⟨h2, h⟩
              unfold raddP
              rw [if_pos (by omega), if_pos h2, kvs_ins (by rw [hyk]; exact hA) (by rw [hyk]; exact hB), ← hAB, hyk, hyv]
            · refine ⟨E, [], by simp, fun e => by omega, fun e => by omega, .inr ⟨h2, rfl⟩, fun y hyk hyv => ?_⟩
              have h2' : ¬ m.kd = 2 := by omega
              unfold raddP addP
              rw [if_neg h2', kvs_len]
              by_cases hle : (E.length : Int) + 1 ≤ m.mx
              · rw [if_pos hle, if_pos hle, kvs_append]
                show kvs E ++ [(y.key, y.data)] = kvs E ++ [(k, v)]
                rw [hyk, hyv]
              · rw [if_neg hle, if_neg hle]
                cases E with
                | nil =>
                  simp at hle
                  omega
                | cons a E =>
                  show kvs (E ++ [y]) = kvs E ++ [(k, v)]
                  rw [kvs_append]
                  show kvs E ++ [(y.key, y.data)] = _
                  rw [hyk, hyv]
          subst hAB
          refine (rupd_new hT e2 hk1 hv1 hf01 hL hA hB (fun h2 => by have : ¬ m.mx ≤ ((A ++ B).length : Int) := fun h => hfull ⟨h2, h⟩; omega)).mono ?_
          rintro e w' ⟨rfl, lv', y, hyb, hyd, hyk, hyv, hT', k', hf'⟩
          refine ⟨by rw [hc], ⟨lv', _, hT', by rw [hrp]; exact hlist y hyk hyv, fun b hb => ?_⟩, k'.mono fun b _ e => hF b (.inl e)⟩
          have hlt := hT'.lt b hb
          rcases hb with rfl | hb | ⟨x, hx, hb⟩
          · exact .inl (hF _ (.inl rfl))
          · exact .inr ⟨hf' b hb, hlt⟩
          · have hx' : x ∈ A ++ y :: B := by
              split at hx
              · exact hx
              · exact List.mem_of_mem_tail hx
            have : x = y ∨ x ∈ A ++ B := by
              rcases List.mem_append.1 hx' with h | h
              · exact .inr (List.mem_append_left _ h)
              · rcases List.mem_cons.1 h with h | h
                · exact .inl h
                · exact .inr (List.mem_append_right _ h)
            rcases this with rfl | h
            · exact .inr ⟨by rcases hb with rfl | rfl <;> omega, hlt⟩
            · exact .inl (hF b (.inr (.inr ⟨x, h, hb⟩)))
    · rw [e1] at hlk
      subst hk
      have hs : (lookP x.key (kvs (l1 ++ x :: l2))).isSome = true := by rw [hlk]; rfl
      have hn1 : ∀ y ∈ l1, y.key ≠ x.key := by
        have hn := hT.keys
        rw [List.map_append, List.map_cons] at hn
        intro y hy e
        exact (List.nodup_append.1 hn).2.2 _ (List.mem_map_of_mem hy) x.key (by simp) e
      by_cases hf1 : fl = 1
      · subst hf1
        have hc : codeP m x.key v 1 (kvs (l1 ++ x :: l2)) = 4 := by unfold codeP; rw [if_neg hw, if_pos hs, if_pos rfl]
        refine (rupd_exist hT hn1 hk1 hv1).mono ?_
        rintro e w' ⟨rfl, rfl⟩
        exact ⟨by rw [hc], same _ (.refl _ _) _ hc (by decide)⟩
      · have hc : codeP m x.key v fl (kvs (l1 ++ x :: l2)) = 0 := by unfold codeP; rw [if_neg hw, if_pos hs, if_neg hf1]
        have hrp : rupdP m x.key v fl (kvs (l1 ++ x :: l2)) = kvs (setT x.key v (useT m x.key (l1 ++ x :: l2))) := by
          unfold rupdP
          rw [hc, if_pos rfl, if_pos hs, kvs_use, kvs_set]
        have hu : useT m x.key (l1 ++ x :: l2) = if m.kd = 3 then l1 ++ l2 ++ [x] else l1 ++ x :: l2 := by unfold useT; rw [e1, e2]
        refine (rupd_there hT hn1 hk1 hv1 (by omega)).mono ?_
        rintro e w' ⟨rfl, lv', hT', k', hf'⟩
        rw [← hu] at hT'
        have hxm : x ∈ l1 ++ x :: l2 := by simp
        refine ⟨by rw [hc], ⟨lv', _, hT', hrp.symm, fun b hb => ?_⟩, k'.mono fun b _ e => ?_⟩
        · have hlt := hT'.lt b hb
          rcases hb with rfl | hb | ⟨z, hz, hb⟩
          · exact .inl (hF _ (.inl rfl))
          · rcases hf' b hb with e | e
            · exact .inl (hF _ (.inr (.inl e)))
            · exact .inr ⟨e, hlt⟩
          · obtain ⟨z0, h0, b1, b2⟩ := setT_blocks hz
            exact .inl (hF b (.inr (.inr ⟨z0, useT_mem h0, by rw [← b1, ← b2]; exact hb⟩)))
        · rcases e with rfl | rfl
          · exact hF _ (.inl rfl)
          · exact hF _ (.inr (.inr ⟨x, hxm, .inr rfl⟩))
end
end Go.Proofs.Ytalahbmahpgkeaa
