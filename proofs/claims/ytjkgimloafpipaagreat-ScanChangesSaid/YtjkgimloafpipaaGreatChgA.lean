/- What stands under the walks, part A. -/
import Derived.Test.YtjkgimloafpipaaGreatScanD
import Derived.Test.YtjkgimloafpipaaGreatScanC
import Derived.Test.YtjkgimloafpipaaGreatMapBool
import Derived.Test.YtjkgimloafpipaaGreatCount
/- Batches while a table is changed, plain: keys that are told rise, and who stays is told. -/
namespace Go.Proofs.YtjkgimloafpipaaGreat
set_option linter.unusedVariables false
set_option linter.unusedSimpArgs false
open Go.RowKit Go.MapKept

def RiseK (T : List ByteArray) : Prop := T.Pairwise fun a b => keyLt a b = true
def hasK (P : List Pr) (k : ByteArray) : Prop := ∃ p ∈ P, p.1 = k
/-- Behind i batches: T was told; A has all that was ever there; g: who stayed. -/
structure ChgI (i : Nat) (P : List Pr) (T A : List ByteArray) (g : ByteArray → Option Bool) : Prop where
  rise : RiseK T
  len : i ≤ T.length
  first : i = 0 → T = []
  sub : ∀ k ∈ T, k ∈ A
  subP : ∀ p ∈ P, p.1 ∈ A
  alen : A.length ≤ 12 + i / 2
  stays : ∀ k, g k = some true → hasK P k ∧ (T ≠ [] → keyLt (lastK T) k = false → k ∈ T)
theorem nodup_sub_len : ∀ {T A : List ByteArray}, T.Nodup → (∀ k ∈ T, k ∈ A) → T.length ≤ A.length
  | [], _, _, _ => Nat.zero_le _
  | t :: T, A, hn, hs => by
    have h1 := List.nodup_cons.1 hn
    have h2 := nodup_sub_len (T := T) (A := A.filter fun x => decide (x ≠ t)) h1.2 (fun k hk => List.mem_filter.2 ⟨hs k (.tail _ hk), by
      rw [decide_eq_true_eq]
      exact fun e => h1.1 (by rw [← e]; exact hk)⟩)
    have h3 : (A.filter fun x => decide (x ≠ t)).length < A.length := List.length_filter_lt_length_iff_exists.2 ⟨t, hs t (.head _), by simp⟩
    simp only [List.length_cons]
    omega
theorem rise_nodup {T : List ByteArray} (h : RiseK T) : T.Nodup := h.imp fun hab e => by
  rw [e, keyLt_irrefl] at hab
  cases hab
theorem ChgI.few {i : Nat} {P : List Pr} {T A : List ByteArray} {g : ByteArray → Option Bool} (h : ChgI i P T A g) : i ≤ 24 ∧ T.length ≤ 24 + 12 := by
  have h1 := nodup_sub_len (rise_nodup h.rise) h.sub
  have h2 := h.len
  have h3 := h.alen
  omega
theorem lastK_mem {T : List ByteArray} (h : T ≠ []) : lastK T ∈ T := by
  obtain ⟨A, z, rfl⟩ := (List.eq_nil_or_concat T).resolve_left h
  rw [List.concat_eq_append, lastK_snoc]
  simp
theorem lastK_top {T : List ByteArray} (h : RiseK T) : ∀ k ∈ T, k = lastK T ∨ keyLt k (lastK T) = true := by
  intro k hk
  by_cases h0 : T = []
  · subst h0; cases hk
  · obtain ⟨A, z, rfl⟩ := (List.eq_nil_or_concat T).resolve_left h0
    rw [List.concat_eq_append] at hk h ⊢
    rw [lastK_snoc]
    rcases List.mem_append.1 hk with hk | hk
    · exact .inr ((List.pairwise_append.1 h).2.2 k hk z (by simp))
    · rw [List.mem_singleton] at hk
      exact .inl hk
section
variable {i : Nat} {P : List Pr} {T A : List ByteArray} {g : ByteArray → Option Bool}
theorem above_mem {after : ByteArray} {first : Bool} {p : Pr} : p ∈ aboveP after first P ↔ p ∈ P ∧ (first = true ∨ keyLt after p.1 = true) := by
  unfold aboveP pairsP
  rw [List.mem_filter, (sortK_perm P).mem_iff, Bool.or_eq_true]
theorem above_rises (hn : (P.map (·.1)).Nodup) (after : ByteArray) (first : Bool) : RiseK ((aboveP after first P).map (·.1)) := by
  have h := (pairsP_rises hn).sublist (List.filter_sublist (p := fun p : Pr => first || keyLt after p.1))
  unfold RiseK
  rw [List.pairwise_map]
  exact h
theorem le_no13 {a b : ByteArray} (h : keyLt a b = true) : Op.bytesLess b.toList a.toList = false ∧ (b.toList == a.toList) = false := by
  refine ⟨by rw [keyLt_less]; exact keyLt_asymm h, ?_⟩
  rw [beq_eq_false_iff_ne]
  intro e
  rw [Lib.toList_data, Lib.toList_data] at e
  rw [byteArray_ext e, keyLt_irrefl] at h
  cases h
/-! Maps of keys. -/
def memK (pre : List ByteArray) (k : ByteArray) : Bool := pre.any fun x => decide (x = k)
theorem memK_iff {pre : List ByteArray} {k : ByteArray} : memK pre k = true ↔ k ∈ pre := by simp [memK]
theorem memK_self (pre : List ByteArray) (k : ByteArray) : memK (pre ++ [k]) k = true := memK_iff.2 (by simp)
theorem memK_other {pre : List ByteArray} {k j : ByteArray} (h : j ≠ k) : memK (pre ++ [k]) j = memK pre j := by
  have : decide (k = j) = false := decide_eq_false (fun e => h e.symm)
  simp [memK, this]
def startG (pre : List ByteArray) (k : ByteArray) : Option Bool := if memK pre k = true then some true else none
def nowG (g : ByteArray → Option Bool) (pre : List ByteArray) (k : ByteArray) : Option Bool := if memK pre k = true then some ((g k).getD false) else none
def offG (g : ByteArray → Option Bool) (pre : List ByteArray) (k : ByteArray) : Option Bool := if memK pre k = true then some false else g k
theorem snocG {g0 : List ByteArray → ByteArray → Option Bool} {pre : List ByteArray} {k : ByteArray} {v : Bool} {f : ByteArray → Option Bool} (h1 : g0 (pre ++ [k]) k = some v) (h2 : ∀ j, j ≠ k → g0 (pre ++ [k]) j = g0 pre j) (j : ByteArray) : (if j = k then some v else g0 pre j) = g0 (pre ++ [k]) j := by
  by_cases e : j = k
  · subst e
    rw [if_pos rfl, h1]
  · rw [if_neg e, h2 j e]
theorem startG_snoc (pre : List ByteArray) (k j : ByteArray) : (if j = k then some true else startG pre j) = startG (pre ++ [k]) j :=
  snocG (g0 := startG) (f := fun _ => none) (by unfold startG; rw [if_pos (memK_self pre k)]) (fun j e => by unfold startG; rw [memK_other e]) j
theorem nowG_snoc (g : ByteArray → Option Bool) (pre : List ByteArray) (k j : ByteArray) : (if j = k then some ((g k).getD false) else nowG g pre j) = nowG g (pre ++ [k]) j :=
  snocG (g0 := nowG g) (f := fun _ => none) (by unfold nowG; rw [if_pos (memK_self pre k)]) (fun j e => by unfold nowG; rw [memK_other e]) j
theorem offG_snoc (g : ByteArray → Option Bool) (pre : List ByteArray) (k j : ByteArray) : (if j = k then some false else offG g pre j) = offG g (pre ++ [k]) j :=
  snocG (g0 := offG g) (f := fun _ => none) (by unfold offG; rw [if_pos (memK_self pre k)]) (fun j e => by unfold offG; rw [memK_other e]) j
theorem keysP_has {P : List Pr} {k : ByteArray} (h : k ∈ keysP P) : hasK P k := by
  obtain ⟨p, hp, rfl⟩ := List.mem_map.1 h
  exact ⟨p, (sortK_perm P).mem_iff.1 hp, rfl⟩
theorem has_keysP {P : List Pr} {k : ByteArray} (h : hasK P k) : k ∈ keysP P := by
  obtain ⟨p, hp, rfl⟩ := h
  exact List.mem_map_of_mem ((sortK_perm P).mem_iff.2 hp)
theorem startG_has {P : List Pr} {k : ByteArray} (h : startG (keysP P) k = some true) : hasK P k := by
  unfold startG at h
  split at h
  · rename_i h1; exact keysP_has (memK_iff.1 h1)
  · cases h
theorem nowG_has {g : ByteArray → Option Bool} {P : List Pr} {k : ByteArray} (h : nowG g (keysP P) k = some true) : g k = some true ∧ hasK P k := by
  unfold nowG at h
  split at h
  · rename_i h1
    refine ⟨?_, keysP_has (memK_iff.1 h1)⟩
    cases hg : g k with
    | none => rw [hg] at h; cases h
    | some v =>
      rw [hg] at h
      exact h
  · cases h
theorem off_false {g : ByteArray → Option Bool} {T : List ByteArray} (h : ∀ k, g k = some true → k ∈ T) (k : ByteArray) : (offG g T k).getD false = false := by
  unfold offG
  split
  · rfl
  · rename_i hm
    cases hg : g k with
    | none => rfl
    | some v =>
      cases v with
      | false => rfl
      | true => exact absurd (memK_iff.2 (h k hg)) hm
/-- What is told next stands behind all that was told. -/
theorem chg_rise (h : ChgI i P T A g) (hn : (P.map (·.1)).Nodup) {B C : List Pr} (hL : aboveP (lastK T) (decide (i = 0)) P = B ++ C) : RiseK (T ++ B.map (·.1)) := by
  have hr := above_rises hn (lastK T) (decide (i = 0))
  rw [hL, List.map_append] at hr
  have hr := (List.pairwise_append.1 hr).1
  unfold RiseK
  rw [List.pairwise_append]
  refine ⟨h.rise, hr, fun k hk b hb => ?_⟩
  obtain ⟨p, hp, rfl⟩ := List.mem_map.1 hb
  have hm := (above_mem (P := P)).1 (by rw [hL]; exact List.mem_append.2 (.inl hp))
  have hi : i ≠ 0 := fun e => by rw [h.first e] at hk; cases hk
  have h1 := hm.2.resolve_left (by simp [hi])
  rcases lastK_top h.rise k hk with e | e
  · rw [e]; exact h1
  · exact keyLt_trans e h1
theorem chg_last (h : ChgI i P T A g) {L : List Pr} (hL : aboveP (lastK T) (decide (i = 0)) P = L) : ∀ k, g k = some true → k ∈ T ++ L.map (·.1) := by
  intro k hk
  obtain ⟨⟨p, hp, rfl⟩, h2⟩ := h.stays k hk
  rw [List.mem_append]
  by_cases hi : i = 0
  · exact .inr (List.mem_map_of_mem (by rw [← hL]; exact above_mem.2 ⟨hp, .inl (by simp [hi])⟩))
  · cases hc : keyLt (lastK T) p.1 with
    | true => exact .inr (List.mem_map_of_mem (by rw [← hL]; exact above_mem.2 ⟨hp, .inr hc⟩))
    | false => exact .inl (h2 (fun e => hi (by have := h.len; rw [e] at this; simpa using this)) hc)
/-- A batch, and more behind it; then a change. -/
theorem chg_next (h : ChgI i P T A g) (hn : (P.map (·.1)).Nodup) {B C P' : List Pr} {A' : List ByteArray} {g' : ByteArray → Option Bool} (hL : aboveP (lastK T) (decide (i = 0)) P = B ++ C) (hB : B ≠ [])
    (hA : ∀ k ∈ A, k ∈ A') (hP' : ∀ p ∈ P', p.1 ∈ A') (hl : A'.length ≤ 12 + (i + 1) / 2) (hg : ∀ k, g' k = some true → g k = some true ∧ hasK P' k) : ChgI (i + 1) P' (T ++ B.map (·.1)) A' g' := by
  have hr := chg_rise h hn hL
  have hne : T ++ B.map (·.1) ≠ [] := by
    intro e
    have := (List.append_eq_nil_iff.1 e).2
    exact hB (List.map_eq_nil_iff.1 this)
  have hb1 : 1 ≤ B.length := List.length_pos_iff.2 hB
  refine ⟨hr, ?_, fun e => by omega, fun k hk => ?_, hP', hl, fun k hk => ⟨(hg k hk).2, fun _ hc => ?_⟩⟩
  · have := h.len
    rw [List.length_append, List.length_map]
    omega
  · rcases List.mem_append.1 hk with hk | hk
    · exact hA k (h.sub k hk)
    · obtain ⟨p, hp, rfl⟩ := List.mem_map.1 hk
      exact hA _ (h.subP p ((above_mem (P := P)).1 (by rw [hL]; exact List.mem_append.2 (.inl hp))).1)
  · have hall := chg_last h hL k (hg k hk).1
    rw [List.map_append, ← List.append_assoc] at hall
    rcases List.mem_append.1 hall with ha | ha
    · exact ha
    · have hr2 := above_rises hn (lastK T) (decide (i = 0))
      rw [hL, List.map_append] at hr2
      obtain ⟨B', z, rfl⟩ := (List.eq_nil_or_concat B).resolve_left hB
      have hlast : lastK (T ++ (B'.concat z).map (·.1)) = z.1 := by
        rw [List.concat_eq_append, List.map_append, ← List.append_assoc]
        exact lastK_snoc _ _
      rw [hlast] at hc
      have := (List.pairwise_append.1 hr2).2.2 z.1 (List.mem_map_of_mem (by rw [List.concat_eq_append]; simp)) k ha
      rw [this] at hc
      cases hc
theorem chg_start (hg : ∀ k, g k = some true → hasK P k) (hl : P.length ≤ 12) : ChgI 0 P [] (P.map (·.1)) g :=
  ⟨.nil, Nat.le_refl _, fun _ => rfl, fun _ h => (by cases h), fun p hp => List.mem_map_of_mem hp, by rw [List.length_map]; omega, fun k hk => ⟨hg k hk, fun e => absurd rfl e⟩⟩
theorem chg_del (m : TM) (k : ByteArray) (hs : ∀ p ∈ P, p.1 ∈ A) : ∀ p ∈ delP m k P, p.1 ∈ A := by
  intro p hp
  unfold delP at hp
  split at hp
  · exact hs p hp
  · exact hs p ((List.mem_filter.1 hp).1)
theorem chg_upd (m : TM) (k v : ByteArray) (fl : Int) (hs : ∀ p ∈ P, p.1 ∈ A) : ∀ p ∈ updP m k v fl P, p.1 ∈ k :: A := by
  have huse : ∀ p ∈ useP m k P, p.1 ∈ k :: A := by
    intro p hp
    unfold useP at hp
    split at hp
    · split at hp
      · rcases List.mem_append.1 hp with hp | hp
        · exact .tail _ (hs p ((List.mem_filter.1 hp).1))
        · rw [List.mem_singleton] at hp
          rw [hp]
          exact .head _
      · exact .tail _ (hs p hp)
    · exact .tail _ (hs p hp)
  intro p hp
  unfold updP at hp
  split at hp
  · split at hp
    · unfold setP at hp
      obtain ⟨q, hq, rfl⟩ := List.mem_map.1 hp
      have := huse q hq
      split
      · exact this
      · exact this
    · unfold addP at hp
      split at hp
      all_goals
        rcases List.mem_append.1 hp with hp | hp
        · first | exact .tail _ (hs p hp) | exact .tail _ (hs p (List.mem_of_mem_tail hp))
        · rw [List.mem_singleton] at hp
          rw [hp]
          exact .head _
  · exact .tail _ (hs p hp)
end
theorem meas_nxt {i n : Nat} (h : i < n) : n - (intOf (.int .i64 ((i : Int) + 1))).toNat < n - (intOf (.int .i64 (i : Int))).toNat := by
  simp only [intOf]
  omega
theorem wrap_small {q : Nat} (h : q < 100) : wrap64 ((q : Int) + 1) = (q : Int) + 1 := IntWalk.wrap64_in _ (by omega)
end Go.Proofs.YtjkgimloafpipaaGreat

/- ScanChanges: what lies in memory between its rounds. -/
namespace Go.Proofs.YtjkgimloafpipaaGreat
set_option linter.unusedVariables false
set_option linter.unusedSimpArgs false
open Go.RowKit Go.MapKept

/-- Texts as cells. -/
def strs (T : List ByteArray) : List Value := T.map Value.string
theorem strs_len (T : List ByteArray) : (strs T).length = T.length := by simp [strs]
theorem strs_at {T : List ByteArray} {i : Nat} {k : ByteArray} (h : T[i]? = some k) : (strs T)[i]? = some (.string k) := by unfold strs; rw [List.getElem?_map, h]; rfl
/-- Blocks that are the call's own, beside the table. -/
def yB (rb sb mb : Nat) (tv : Value) (dl : List Nat) (b : Nat) : Prop := b = rb ∨ b = sb ∨ b = mb ∨ tv.ownBlock = some b ∨ b ∈ dl
structure ChgW (W0 : World) (rb sb mb : Nat) (tv : Value) (T : List ByteArray) (g : ByteArray → Option Bool) (dl : List Nat) (w : World) : Prop where
  back : Kept (fun _ => False) W0 w
  rbox : Box w rb (.bool false)
  sbox : Box w sb (.map (some mb))
  map : MapB w mb g
  told : w.ownsRow 0 9 1 tv T.length (strs T)
  tnew : ∀ b, tv.ownBlock = some b → W0.heap.size ≤ b ∧ b < w.heap.size ∧ b ≠ rb ∧ b ≠ sb ∧ b ≠ mb
  rnew : W0.heap.size ≤ rb
  snew : rb < sb
  mnew : W0.heap.size ≤ mb ∧ mb ≠ rb ∧ mb ≠ sb
  marks : ∀ d ∈ dl, w.heap[d]? = some (.deferred (some [])) ∧ W0.heap.size ≤ d ∧ d ≠ rb ∧ d ≠ sb ∧ d ≠ mb ∧ tv.ownBlock ≠ some d
  nd : dl.Nodup
def ChgT (W0 : World) (m : TM) (bt : Nat) (P : List Pr) (Y : Nat → Prop) (w : World) : Prop := ∃ F, Ses m bt P F w ∧ ∀ b, F b → W0.heap.size ≤ b ∧ b < w.heap.size ∧ ¬ Y b
section
variable {W0 w w0 w1 w' : World} {rb sb mb : Nat} {tv : Value} {T : List ByteArray} {g : ByteArray → Option Bool} {dl : List Nat} {m : TM} {bt : Nat} {P : List Pr} {Y Y' : Nat → Prop}
theorem ChgW.lt (h : ChgW W0 rb sb mb tv T g dl w) : ∀ b, yB rb sb mb tv dl b → b < w.heap.size := by
  rintro b (rfl | rfl | rfl | e | e)
  · exact h.rbox.lt
  · exact h.sbox.lt
  · exact h.map.lt
  · exact (h.tnew b e).2.1
  · exact (Array.getElem?_eq_some_iff.1 (h.marks b e).1).1
theorem ChgW.kept {S : Nat → Prop} (h : ChgW W0 rb sb mb tv T g dl w) (k : Kept S w w') (hS : ∀ b, S b → W0.heap.size ≤ b ∧ ¬ yB rb sb mb tv dl b) : ChgW W0 rb sb mb tv T g dl w' :=
  ⟨h.back.trans k (fun b hb e => absurd hb (Nat.not_lt.2 (hS b e).1)), h.rbox.kept k (fun e => (hS _ e).2 (.inl rfl)), h.sbox.kept k (fun e => (hS _ e).2 (.inr (.inl rfl))), h.map.kept k (fun e => (hS _ e).2 (.inr (.inr (.inl rfl)))),
   ownsRow_kept h.told k (fun b e e' => (hS b e').2 (.inr (.inr (.inr (.inl e))))), fun b e => ⟨(h.tnew b e).1, Nat.lt_of_lt_of_le (h.tnew b e).2.1 k.size, (h.tnew b e).2.2⟩, h.rnew, h.snew, h.mnew,
   fun d hd => ⟨(k.block d (Array.getElem?_eq_some_iff.1 (h.marks d hd).1).1 (fun e => (hS d e).2 (.inr (.inr (.inr (.inr hd)))))).trans (h.marks d hd).1, (h.marks d hd).2⟩, h.nd⟩
theorem ChgW.keep (h : ChgW W0 rb sb mb tv T g dl w) (k : Kept (fun _ => False) w w') : ChgW W0 rb sb mb tv T g dl w' := h.kept k (fun _ e => e.elim)
theorem ChgT.keep (h : ChgT W0 m bt P Y w) (k : Kept (fun _ => False) w w') : ChgT W0 m bt P Y w' := by
  obtain ⟨F, h1, h2⟩ := h
  exact ⟨F, h1.keep k, fun b hb => ⟨(h2 b hb).1, Nat.lt_of_lt_of_le (h2 b hb).2.1 k.size, (h2 b hb).2.2⟩⟩
theorem ChgT.kept {S : Nat → Prop} (h : ChgT W0 m bt P Y w) (k : Kept S w w') (hS : ∀ b, S b → Y b ∨ w.heap.size ≤ b) : ChgT W0 m bt P Y w' := by
  obtain ⟨F, h1, h2⟩ := h
  exact ⟨F, h1.kept k (fun b hb e => (hS b e).elim (fun e => (h2 b hb).2.2 e) (fun e => by have := (h2 b hb).2.1; omega)), fun b hb => ⟨(h2 b hb).1, Nat.lt_of_lt_of_le (h2 b hb).2.1 k.size, (h2 b hb).2.2⟩⟩
theorem ChgT.grow (h : ChgT W0 m bt P Y w) (hY : ∀ b, Y' b → Y b ∨ w.heap.size ≤ b) : ChgT W0 m bt P Y' w := by
  obtain ⟨F, h1, h2⟩ := h
  exact ⟨F, h1, fun b hb => ⟨(h2 b hb).1, (h2 b hb).2.1, fun e => (hY b e).elim (h2 b hb).2.2 (fun e => by have := (h2 b hb).2.1; omega)⟩⟩
/-- The table is changed: a key is deleted. -/
theorem chgw_del {a : Option Addr} {n c : Nat} {k : ByteArray} (h : ChgT W0 m bt P Y w0) (hY : ∀ b, Y b → b < w0.heap.size) (q : Kept (fun _ => False) w0 w1) (hk : BytesAt w1 a n k) :
    Calls Tryz.prog 32 #[.pointer (some ⟨bt, 0, none⟩), .slice a n c] w1 fun e w' => (∃ v, e = .returned v) ∧ ChgT W0 m bt (delP m k P) Y w' ∧ Kept (fun b => W0.heap.size ≤ b ∧ ¬ Y b) w0 w' := by
  obtain ⟨F, h1, h2⟩ := h
  refine (ses_del (c := c) h1 q hk).mono ?_
  rintro e w' ⟨rfl, h3, h4⟩
  have k0 := (q.mono (S' := F) fun _ _ e => e.elim).trans h4 (fun _ _ e => e)
  exact ⟨⟨_, rfl⟩, ⟨F, h3, fun b hb => ⟨(h2 b hb).1, Nat.lt_of_lt_of_le (h2 b hb).2.1 k0.size, (h2 b hb).2.2⟩⟩, k0.mono fun b _ e => ⟨(h2 b e).1, (h2 b e).2.2⟩⟩
/-- .. a key is put. -/
theorem chgw_upd {a va : Option Addr} {n c vn vc : Nat} {k v : ByteArray} {fl : Int} (h : ChgT W0 m bt P Y w0) (hW : W0.heap.size ≤ w0.heap.size) (hY : ∀ b, Y b → b < w0.heap.size) (q : Kept (fun _ => False) w0 w1) (hk : BytesAt w1 a n k) (hv : BytesAt w1 va vn v) (hva : ∀ b o, va = some ⟨b, o, none⟩ → w0.heap.size ≤ b) :
    Calls Tryz.prog 23 #[.pointer (some ⟨bt, 0, none⟩), .slice a n c, .slice va vn vc, .int .i64 fl] w1 fun e w' => (∃ v, e = .returned v) ∧ ChgT W0 m bt (updP m k v fl P) Y w' ∧ Kept (fun b => W0.heap.size ≤ b ∧ ¬ Y b) w0 w' := by
  obtain ⟨F, h1, h2⟩ := h
  refine (ses_upd (c := c) (vc := vc) (fl := fl) h1 q hk hv (fun b o e => .inr (hva b o e))).mono ?_
  rintro e w' ⟨rfl, h3, h4⟩
  have k0 := (q.mono (S' := F) fun _ _ e => e.elim).trans h4 (fun _ _ e => e)
  refine ⟨⟨_, rfl⟩, ⟨_, h3, fun b hb => ?_⟩, k0.mono fun b _ e => ⟨(h2 b e).1, (h2 b e).2.2⟩⟩
  rcases hb with hb | hb
  · exact ⟨(h2 b hb).1, Nat.lt_of_lt_of_le (h2 b hb).2.1 k0.size, (h2 b hb).2.2⟩
  · exact ⟨by omega, hb.2, fun e => by have := hY b e; omega⟩
theorem ChgW.tell {tv' : Value} {k : ByteArray} (h : ChgW W0 rb sb mb tv T g dl w) (q : Kept (fun _ => False) w w1) (own : w'.ownsRow 0 9 1 tv' (T.length + 1) (strs T ++ [.string k])) (kk : Kept (fun b => tv.ownBlock = some b) w1 w') (ho : tv'.ownBlock = tv.ownBlock ∨ tv'.ownBlock = some w1.heap.size) :
    ChgW W0 rb sb mb tv' (T ++ [k]) g dl w' := by
  have h1 := h.keep q
  have hz := q.size
  have hlt := h.lt
  have hb0 := h.back.size
  refine ⟨h1.back.trans kk (fun b hb e => by have := (h1.tnew b e).1; omega), h1.rbox.kept kk (fun e => (h1.tnew _ e).2.2.1 rfl), h1.sbox.kept kk (fun e => (h1.tnew _ e).2.2.2.1 rfl), h1.map.kept kk (fun e => (h1.tnew _ e).2.2.2.2 rfl), ?_, fun b e => ?_, h.rnew, h.snew, h.mnew, fun d hd => ?_, h.nd⟩
  · rw [List.length_append]
    unfold strs at own ⊢
    rw [List.map_append]
    exact own
  · have hbl := (own.lt b e).2
    rcases ho with ho | ho
    · have := h1.tnew b (ho.symm.trans e)
      exact ⟨this.1, hbl, this.2.2⟩
    · have e' := Option.some.inj (ho.symm.trans e)
      have a1 := hlt rb (.inl rfl)
      have a2 := hlt sb (.inr (.inl rfl))
      have a3 := hlt mb (.inr (.inr (.inl rfl)))
      refine ⟨by omega, hbl, by omega, by omega, by omega⟩
  · have hm := h1.marks d hd
    refine ⟨(kk.block d (Array.getElem?_eq_some_iff.1 hm.1).1 (fun e => hm.2.2.2.2.2 e)).trans hm.1, hm.2.1, hm.2.2.1, hm.2.2.2.1, hm.2.2.2.2.1, fun e => ?_⟩
    rcases ho with ho | ho
    · exact hm.2.2.2.2.2 (ho.symm.trans e)
    · have e' := Option.some.inj (ho.symm.trans e)
      have := hlt d (.inr (.inr (.inr (.inr hd))))
      omega
theorem ChgT.tell {tv' : Value} (h : ChgT W0 m bt P (yB rb sb mb tv dl) w) (q : Kept (fun _ => False) w w1) (kk : Kept (fun b => tv.ownBlock = some b) w1 w') (ho : tv'.ownBlock = tv.ownBlock ∨ tv'.ownBlock = some w1.heap.size) : ChgT W0 m bt P (yB rb sb mb tv' dl) w' := by
  have hz := q.size
  obtain ⟨F, h1, h2⟩ := h
  have k0 : Kept (fun b => tv.ownBlock = some b) w w' := (q.mono fun _ _ e => e.elim).trans kk (fun _ _ e => e)
  refine ⟨F, h1.kept k0 (fun b hb e => (h2 b hb).2.2 (.inr (.inr (.inr (.inl e))))), fun b hb => ⟨(h2 b hb).1, Nat.lt_of_lt_of_le (h2 b hb).2.1 k0.size, ?_⟩⟩
  have h3 := h2 b hb
  rintro (e | e | e | e | e)
  · exact h3.2.2 (.inl e)
  · exact h3.2.2 (.inr (.inl e))
  · exact h3.2.2 (.inr (.inr (.inl e)))
  · rcases ho with ho | ho
    · exact h3.2.2 (.inr (.inr (.inr (.inl (ho.symm.trans e)))))
    · have e' := Option.some.inj (ho.symm.trans e)
      omega
  · exact h3.2.2 (.inr (.inr (.inr (.inr e))))
/-- A batch's row beside it. -/
def ChgB (ba : Option Addr) (bc : Nat) (B : List Pr) (tv : Value) (w : World) : Prop := w.ownsRow 0 50 2 (.slice ba B.length bc) B.length (prV B) ∧ ∀ b, (Value.slice ba B.length bc).ownBlock = some b → b < w.heap.size ∧ tv.ownBlock ≠ some b
theorem ChgB.tell {tv' : Value} {ba : Option Addr} {bc : Nat} {B : List Pr} (h : ChgB ba bc B tv w) (q : Kept (fun _ => False) w w1) (kk : Kept (fun b => tv.ownBlock = some b) w1 w') (ho : tv'.ownBlock = tv.ownBlock ∨ tv'.ownBlock = some w1.heap.size) : ChgB ba bc B tv' w' := by
  have hz := q.size
  have k0 : Kept (fun b => tv.ownBlock = some b) w w' := (q.mono fun _ _ e => e.elim).trans kk (fun _ _ e => e)
  refine ⟨ownsRow_kept h.1 k0 (fun b e e' => (h.2 b e).2 e'), fun b e => ⟨Nat.lt_of_lt_of_le (h.2 b e).1 k0.size, fun e2 => ?_⟩⟩
  rcases ho with ho | ho
  · exact (h.2 b e).2 (ho.symm.trans e2)
  · have := Option.some.inj (ho.symm.trans e2)
    have := (h.2 b e).1
    omega
theorem ChgB.keep {ba : Option Addr} {bc : Nat} {B : List Pr} (h : ChgB ba bc B tv w) (q : Kept (fun _ => False) w w1) : ChgB ba bc B tv w1 := ⟨ownsRow_kept h.1 q (fun _ _ e => e), fun b e => ⟨Nat.lt_of_lt_of_le (h.2 b e).1 q.size, (h.2 b e).2⟩⟩
/-- The map of those that stay is another one, and a mark more. -/
theorem ChgW.next {nb dk : Nat} {g' : ByteArray → Option Bool} (h : ChgW W0 rb sb mb tv T g dl w) (k : Kept (fun b => b = sb ∨ w.heap.size ≤ b) w w') (hs : Box w' sb (.map (some nb))) (hm : MapB w' nb g') (hn : w.heap.size ≤ nb) (hd : w'.heap[dk]? = some (.deferred (some []))) (hdn : w.heap.size ≤ dk) (hne : dk ≠ nb) :
    ChgW W0 rb sb nb tv T g' (dk :: dl) w' := by
  have hlt := h.lt
  have hb0 := h.back.size
  have hsb := h.snew
  have hr := h.rnew
  have a1 := hlt rb (.inl rfl)
  have a2 := hlt sb (.inr (.inl rfl))
  refine ⟨h.back.trans k (fun b hb e => by omega), h.rbox.kept k (fun e => by omega), hs, hm, ownsRow_kept h.told k (fun b e e' => ?_), fun b e => ?_, h.rnew, h.snew, ⟨by omega, by omega, by omega⟩, fun d hd' => ?_, List.nodup_cons.2 ⟨fun e => ?_, h.nd⟩⟩
  · have := h.tnew b e
    omega
  · have := h.tnew b e
    exact ⟨this.1, Nat.lt_of_lt_of_le this.2.1 k.size, this.2.2.1, this.2.2.2.1, by omega⟩
  · rcases List.mem_cons.1 hd' with rfl | hd'
    · exact ⟨hd, by omega, by omega, by omega, hne, fun e => by have := (h.tnew _ e).2.1; omega⟩
    · have hmk := h.marks d hd'
      have := (Array.getElem?_eq_some_iff.1 hmk.1).1
      exact ⟨(k.block d this (fun e => by have := hmk.2.2.2.1; omega)).trans hmk.1, hmk.2.1, hmk.2.2.1, hmk.2.2.2.1, by omega, hmk.2.2.2.2.2⟩
  · have := hlt dk (.inr (.inr (.inr (.inr e))))
    omega
theorem ChgT.next {nb dk : Nat} (h : ChgT W0 m bt P (yB rb sb mb tv dl) w) (k : Kept (fun b => b = sb ∨ w.heap.size ≤ b) w w') (hn : w.heap.size ≤ nb) (hdn : w.heap.size ≤ dk) : ChgT W0 m bt P (yB rb sb nb tv (dk :: dl)) w' := by
  obtain ⟨F, h1, h2⟩ := h
  refine ⟨F, h1.kept k (fun b hb e => ?_), fun b hb => ⟨(h2 b hb).1, Nat.lt_of_lt_of_le (h2 b hb).2.1 k.size, ?_⟩⟩
  · have h3 := h2 b hb
    rcases e with e | e
    · exact h3.2.2 (.inr (.inl e))
    · omega
  · have h3 := h2 b hb
    rintro (e | e | e | e | e)
    · exact h3.2.2 (.inl e)
    · exact h3.2.2 (.inr (.inl e))
    · omega
    · exact h3.2.2 (.inr (.inr (.inr (.inl e))))
    · rcases List.mem_cons.1 e with e | e
      · omega
      · exact h3.2.2 (.inr (.inr (.inr (.inr e))))
/-- Another value in the map. -/
theorem ChgW.remap {g' : ByteArray → Option Bool} (h : ChgW W0 rb sb mb tv T g dl w) (k : Kept (fun b => b = mb) w w') (hm : MapB w' mb g') : ChgW W0 rb sb mb tv T g' dl w' :=
  ⟨h.back.trans k (fun b hb e => by have e : b = mb := e; have := h.mnew.1; omega), h.rbox.kept k (fun e => h.mnew.2.1 (Eq.symm e)), h.sbox.kept k (fun e => h.mnew.2.2 (Eq.symm e)), hm,
   ownsRow_kept h.told k (fun b e e' => (h.tnew b e).2.2.2.2 e'), fun b e => ⟨(h.tnew b e).1, Nat.lt_of_lt_of_le (h.tnew b e).2.1 k.size, (h.tnew b e).2.2⟩, h.rnew, h.snew, h.mnew,
   fun d hd => ⟨(k.block d (Array.getElem?_eq_some_iff.1 (h.marks d hd).1).1 (fun e => (h.marks d hd).2.2.2.2.1 e)).trans (h.marks d hd).1, (h.marks d hd).2⟩, h.nd⟩
theorem strE : Elem Tryz.prog 40 9 (.string ⟨#[]⟩) 1 16 := ⟨Tryz.underlying40, by kernel_rfl, rfl, by omega⟩
end
end Go.Proofs.YtjkgimloafpipaaGreat
