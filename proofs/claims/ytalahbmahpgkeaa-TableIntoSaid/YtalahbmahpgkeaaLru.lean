/- The list of chapter 09 in memory: a ring of links, a table of them. What moving links about, and stores into one, do to it. No program is named here. -/
import Derived.Test.YtalahbmahpgkeaaTab
namespace Go.Proofs.Ytalahbmahpgkeaa
set_option linter.unusedVariables false
set_option linter.unusedSimpArgs false
open Go.RowKit Go.MapKept

/-- Nothing but the links (prev, next) of some spots may have changed. -/
structure Moved (l : List Spot) (w w' : World) : Prop where
  kept : Kept (fun b => b ∈ l.map (·.1)) w w'
  size : w'.heap.size = w.heap.size
  row : ∀ b n, RowAt w b n → RowAt w' b n
  cell : ∀ b o, (∀ a ∈ l, a.1 = b → o ≠ a.2 + 2 ∧ o ≠ a.2 + 3) → w'.cell? ⟨b, o, none⟩ = w.cell? ⟨b, o, none⟩

theorem Moved.refl (l : List Spot) (w : World) : Moved l w w := ⟨.refl _ _, rfl, fun _ _ h => h, fun _ _ _ => rfl⟩
theorem Moved.trans {l : List Spot} {a b c : World} (h : Moved l a b) (k : Moved l b c) : Moved l a c :=
  ⟨h.kept.trans k.kept (fun _ _ h => h), k.size.trans h.size, fun b n hr => k.row b n (h.row b n hr), fun b o hn => (k.cell b o hn).trans (h.cell b o hn)⟩
theorem Moved.sub {l l' : List Spot} {a b : World} (h : Moved l a b) (hs : ∀ x ∈ l, x ∈ l') : Moved l' a b :=
  ⟨h.kept.mono (fun k _ hk => by obtain ⟨x, hx, e⟩ := List.mem_map.1 hk; exact List.mem_map.2 ⟨x, hs x hx, e⟩), h.size, h.row, fun b o hn => h.cell b o (fun a ha => hn a (hs a ha))⟩
theorem Moved.set_nx {l : List Spot} {a : Spot} (ha : a ∈ l) (w : World) (v : Value) : Moved l w (w.setCell ⟨a.1, a.2 + 3, none⟩ v) :=
  ⟨(Kept.one_set w _ v).mono (fun k _ hk => List.mem_map.2 ⟨a, ha, hk.symm⟩), by simp [World.setCell], fun b n hr => hr.setCell _ _,
   fun b o hn => cell_set_other v (fun e => (hn a ha e.1).2 e.2.symm)⟩
theorem Moved.set_pv {l : List Spot} {a : Spot} (ha : a ∈ l) (w : World) (v : Value) : Moved l w (w.setCell ⟨a.1, a.2 + 2, none⟩ v) :=
  ⟨(Kept.one_set w _ v).mono (fun k _ hk => List.mem_map.2 ⟨a, ha, hk.symm⟩), by simp [World.setCell], fun b n hr => hr.setCell _ _,
   fun b o hn => cell_set_other v (fun e => (hn a ha e.1).1 e.2.symm)⟩
theorem Moved.twin {l : List Spot} {a b b' : World} (h : Moved l a b) (e : Twin b' b) : Moved l a b' := by
  obtain ⟨n, rfl⟩ := e.eq
  exact ⟨h.kept.twin e, h.size, h.row, h.cell⟩
theorem Linked.twin {s : Spot} {l : List Spot} {w w' : World} (h : Linked w s l) (t : Twin w' w) : Linked w' s l := by
  obtain ⟨n, rfl⟩ := t.eq
  exact h
theorem ahead_mem (s : Spot) (l : List Spot) : ahead s l ∈ s :: l := List.getLast_mem _
theorem behind_mem (s : Spot) (l : List Spot) : behind s l ∈ l ++ [s] := List.head_mem _


theorem ends_mem {s : Spot} {l1 l2 : List Spot} (x : Spot) : ahead s l1 ∈ s :: (l1 ++ x :: l2) ∧ behind s l2 ∈ s :: (l1 ++ x :: l2) := by
  have h1 := ahead_mem s l1
  have h2 := behind_mem s l2
  grind

/-! ## The list -/
def spots {κ ν : Type} (xs : List (Ent κ ν)) : List Spot := xs.map fun x => (x.b, 0)

section
variable {κ ν : Type}

/-- The list at block bl, its table at block bm: so many entries it may have, these it has, the one that was used longest ago first. -/
structure Lru (K : KeyK κ) (V : ν → Value) (zk : Value) (w : World) (bl bm : Nat) (most : Int) (xs : List (Ent κ ν)) : Prop where
  nodup : (bl :: bm :: xs.map (·.b)).Nodup
  keys : (xs.map (·.k)).Nodup
  head : RowAt w bl 6
  row : ∀ x ∈ xs, RowAt w x.b 4
  most : w.cell? ⟨bl, 0, none⟩ = some (.int .i64 most)
  zk : w.cell? ⟨bl, 1, none⟩ = some zk
  links : w.cell? ⟨bl, 5, none⟩ = some (.map (some bm))
  key : ∀ x ∈ xs, w.cell? ⟨x.b, 0, none⟩ = some (K.enc x.k)
  val : ∀ x ∈ xs, w.cell? ⟨x.b, 1, none⟩ = some (V x.v)
  linked : Linked w (bl, 1) (spots xs)
  tab : Tab K w bm xs

/-- The blocks that a list takes. -/
def Lfp (bl bm : Nat) (xs : List (Ent κ ν)) (b : Nat) : Prop := b = bl ∨ b = bm ∨ ∃ x ∈ xs, x.b = b

variable {K : KeyK κ} {V : ν → Value} {zk : Value} {w w' : World} {bl bm : Nat} {most : Int} {xs ys : List (Ent κ ν)}

theorem Lru.lt (h : Lru K V zk w bl bm most xs) : ∀ b, Lfp bl bm xs b → b < w.heap.size := by
  rintro b (rfl | rfl | ⟨x, hx, rfl⟩)
  · exact h.head.lt
  · exact h.tab.lt
  · exact (h.row x hx).lt

theorem Lru.laid (h : Lru K V zk w bl bm most xs) : Laid w ((bl, 1) :: spots xs) := by
  constructor
  · have := h.nodup
    simp only [spots, List.map_cons, List.map_map]
    rw [show ((fun (a : Spot) => a.1) ∘ fun (x : Ent κ ν) => (x.b, 0)) = (·.b) from rfl]
    grind
  · intro a ha
    rcases List.mem_cons.1 ha with rfl | ha
    · exact ⟨6, by simp, h.head⟩
    · obtain ⟨x, hx, rfl⟩ := List.mem_map.1 ha
      exact ⟨4, by simp, h.row x hx⟩

theorem Linked.kept {S : Nat → Prop} {s : Spot} {l : List Spot} (h : Linked w s l) (hd : Laid w (s :: l)) (k : Kept S w w') (hn : ∀ a ∈ s :: l, ¬ S a.1) : Linked w' s l := by
  intro e he
  have hm := edges_mem s l e he
  obtain ⟨n1, _, r1⟩ := hd.row _ hm.1
  obtain ⟨n2, _, r2⟩ := hd.row _ hm.2
  have := h e he
  unfold nx pv at *
  exact ⟨(k.cell r1.lt (hn _ hm.1)).trans this.1, (k.cell r2.lt (hn _ hm.2)).trans this.2⟩

theorem Lru.kept {S : Nat → Prop} (h : Lru K V zk w bl bm most xs) (k : Kept S w w') (hn : ∀ b, Lfp bl bm xs b → ¬ S b) : Lru K V zk w' bl bm most xs := by
  have n0 := hn bl (.inl rfl)
  have n1 := hn bm (.inr (.inl rfl))
  have n2 : ∀ x ∈ xs, ¬ S x.b := fun x hx => hn x.b (.inr (.inr ⟨x, hx, rfl⟩))
  refine ⟨h.nodup, h.keys, h.head.kept k n0, fun x hx => (h.row x hx).kept k (n2 x hx), (k.cell h.head.lt n0).trans h.most, (k.cell h.head.lt n0).trans h.zk, (k.cell h.head.lt n0).trans h.links,
    fun x hx => (k.cell (h.row x hx).lt (n2 x hx)).trans (h.key x hx), fun x hx => (k.cell (h.row x hx).lt (n2 x hx)).trans (h.val x hx), ?_, h.tab.kept k n1⟩
  refine h.linked.kept h.laid k fun a ha => ?_
  rcases List.mem_cons.1 ha with rfl | ha
  · exact n0
  · obtain ⟨x, hx, rfl⟩ := List.mem_map.1 ha
    exact n2 x hx

theorem Lru.twin (h : Lru K V zk w bl bm most xs) (t : Twin w' w) : Lru K V zk w' bl bm most xs := by
  obtain ⟨n, rfl⟩ := t.eq
  exact ⟨h.nodup, h.keys, h.head, h.row, h.most, h.zk, h.links, h.key, h.val, h.linked, h.tab⟩

theorem Lru.fp_perm (p : ys.Perm xs) (b : Nat) : Lfp bl bm ys b ↔ Lfp bl bm xs b := by
  unfold Lfp
  have : (∃ x ∈ ys, x.b = b) ↔ ∃ x ∈ xs, x.b = b := ⟨fun ⟨x, hx, e⟩ => ⟨x, p.subset hx, e⟩, fun ⟨x, hx, e⟩ => ⟨x, p.symm.subset hx, e⟩⟩
  rw [this]

/-- The same entries, in another order: only the links have been moved. -/
theorem Lru.moved (h : Lru K V zk w bl bm most xs) (m : Moved ((bl, 1) :: spots xs) w w') (p : ys.Perm xs) (hl : Linked w' (bl, 1) (spots ys)) : Lru K V zk w' bl bm most ys := by
  have hnd := h.nodup
  have hmem : ∀ y ∈ ys, y ∈ xs := fun y hy => p.subset hy
  have hcl : ∀ o, o ≠ 3 → o ≠ 4 → w'.cell? ⟨bl, o, none⟩ = w.cell? ⟨bl, o, none⟩ := by
    intro o h3 h4
    refine m.cell bl o fun a ha e => ?_
    rcases List.mem_cons.1 ha with rfl | ha
    · simp; omega
    · obtain ⟨x, hx, rfl⟩ := List.mem_map.1 ha
      have : bl ∈ xs.map (·.b) := List.mem_map.2 ⟨x, hx, e⟩
      grind
  have hcx : ∀ x ∈ xs, ∀ o, o < 2 → w'.cell? ⟨x.b, o, none⟩ = w.cell? ⟨x.b, o, none⟩ := by
    intro x hx o ho
    refine m.cell x.b o fun a ha e => ?_
    rcases List.mem_cons.1 ha with rfl | ha
    · simp; omega
    · obtain ⟨y, hy, rfl⟩ := List.mem_map.1 ha
      simp; omega
  refine ⟨?_, ?_, m.row _ _ h.head, fun y hy => m.row _ _ (h.row y (hmem y hy)), (hcl 0 (by omega) (by omega)).trans h.most, (hcl 1 (by omega) (by omega)).trans h.zk, (hcl 5 (by omega) (by omega)).trans h.links,
    fun y hy => (hcx y (hmem y hy) 0 (by omega)).trans (h.key y (hmem y hy)), fun y hy => (hcx y (hmem y hy) 1 (by omega)).trans (h.val y (hmem y hy)), hl, (h.tab.kept m.kept ?_).perm p.symm⟩
  · have q : (ys.map (·.b)).Perm (xs.map (·.b)) := p.map _
    exact ((q.cons bm).cons bl).nodup_iff.2 hnd
  · exact ((p.map _).nodup_iff).2 h.keys
  · intro hb
    obtain ⟨a, ha, e⟩ := List.mem_map.1 hb
    rcases List.mem_cons.1 ha with rfl | ha
    · grind
    · obtain ⟨x, hx, rfl⟩ := List.mem_map.1 ha
      have : bm ∈ xs.map (·.b) := List.mem_map.2 ⟨x, hx, e⟩
      grind

theorem moved_kept {l : List (Ent κ ν)} (m : Moved ((bl, 1) :: spots l) w w') : Kept (Lfp bl bm l) w w' := by
  refine m.kept.mono fun k _ hk => ?_
  obtain ⟨a, ha, e⟩ := List.mem_map.1 hk
  rcases List.mem_cons.1 ha with rfl | ha
  · exact .inl e.symm
  · obtain ⟨x, hx, rfl⟩ := List.mem_map.1 ha
    exact .inr (.inr ⟨x, hx, e⟩)

/-- Another value is stored into an entry. -/
theorem Lru.store {l1 l2 : List (Ent κ ν)} {x : Ent κ ν} (h : Lru K V zk w bl bm most (l1 ++ x :: l2)) (v : ν) :
    Lru K V zk (w.setCell ⟨x.b, 1, none⟩ (V v)) bl bm most (l1 ++ { x with v := v } :: l2) := by
  have hx : x ∈ l1 ++ x :: l2 := by simp
  have hnd := h.nodup
  have hne : x.b ≠ bl := by grind
  have hnm : x.b ≠ bm := by grind
  have hsp : spots (l1 ++ { x with v := v } :: l2) = spots (l1 ++ x :: l2) := by simp [spots]
  have hb : (l1 ++ { x with v := v } :: l2).map (·.b) = (l1 ++ x :: l2).map (·.b) := by simp
  have hk : (l1 ++ { x with v := v } :: l2).map (·.k) = (l1 ++ x :: l2).map (·.k) := by simp
  have hmem : ∀ y ∈ l1 ++ { x with v := v } :: l2, (y = { x with v := v }) ∨ (y ∈ l1 ++ x :: l2 ∧ y.b ≠ x.b) := by
    intro y hy
    grind
  have hkc : ∀ b o, ¬ (b = x.b ∧ o = 1) → (w.setCell ⟨x.b, 1, none⟩ (V v)).cell? ⟨b, o, none⟩ = w.cell? ⟨b, o, none⟩ := fun b o hn => cell_set_other _ (fun e => hn ⟨e.1.symm, e.2.symm⟩)
  refine ⟨by rw [hb]; exact h.nodup, by rw [hk]; exact h.keys, h.head.setCell _ _, ?_, (hkc _ _ (by simp)).trans h.most, (hkc _ _ (fun e => hne e.1.symm)).trans h.zk, (hkc _ _ (by simp)).trans h.links, ?_, ?_, ?_, ?_⟩
  · intro y hy
    rcases hmem y hy with rfl | ⟨hy, _⟩
    · exact (h.row x hx).setCell _ _
    · exact (h.row y hy).setCell _ _
  · intro y hy
    rcases hmem y hy with rfl | ⟨hy, _⟩
    · exact (hkc _ _ (by simp)).trans (h.key x hx)
    · exact (hkc _ _ (by simp)).trans (h.key y hy)
  · intro y hy
    rcases hmem y hy with rfl | ⟨hy, hne⟩
    · exact cell_set_same (h.row x hx) (by omega) _
    · exact (hkc _ _ (fun e => hne e.1)).trans (h.val y hy)
  · rw [hsp]
    intro e he
    have := h.linked e he
    unfold nx pv at *
    have hm := edges_mem _ _ e he
    have h1 : ∀ a ∈ (bl, 1) :: spots (l1 ++ x :: l2), ∀ i, 2 ≤ i → ¬ (a.1 = x.b ∧ a.2 + i = 1) := by
      rintro a ha i hi ⟨_, h2⟩
      omega
    rw [hkc _ _ (h1 _ hm.1 3 (by omega)), hkc _ _ (h1 _ hm.2 2 (by omega))]
    exact this
  · refine Tab.vals (xs := l1 ++ x :: l2) (h.tab.kept (Kept.one_set _ _ _) (fun e => hnm e.symm)) (by simp)

/-- One is taken out: out of the ring, and out of the table. -/
theorem Lru.dropped {w1 w2 : World} {l1 l2 : List (Ent κ ν)} {x : Ent κ ν} (h : Lru K V zk w bl bm most (l1 ++ x :: l2)) (m : Moved ((bl, 1) :: spots (l1 ++ x :: l2)) w w1)
    (hl : Linked w1 (bl, 1) (spots (l1 ++ l2))) (ht : Tab K w2 bm (l1 ++ l2)) (k2 : Kept (fun b => b = bm) w1 w2) : Lru K V zk w2 bl bm most (l1 ++ l2) := by
  have hnd := h.nodup
  have hks := h.keys
  have hmem : ∀ y ∈ l1 ++ l2, y ∈ l1 ++ x :: l2 := by intro y hy; grind
  have hbm : ∀ y ∈ l1 ++ x :: l2, y.b ≠ bm := by
    intro y hy e
    have : bm ∈ (l1 ++ x :: l2).map (·.b) := List.mem_map.2 ⟨y, hy, e⟩
    grind
  have hbl : ∀ y ∈ l1 ++ x :: l2, y.b ≠ bl := by
    intro y hy e
    have : bl ∈ (l1 ++ x :: l2).map (·.b) := List.mem_map.2 ⟨y, hy, e⟩
    grind
  have hlm : bl ≠ bm := by grind
  have hcl : ∀ o, o ≠ 3 → o ≠ 4 → w2.cell? ⟨bl, o, none⟩ = w.cell? ⟨bl, o, none⟩ := by
    intro o h3 h4
    refine (k2.cell (m.row _ _ h.head).lt hlm).trans (m.cell bl o fun a ha e => ?_)
    rcases List.mem_cons.1 ha with rfl | ha
    · simp; omega
    · obtain ⟨y, hy, rfl⟩ := List.mem_map.1 ha
      exact (hbl y hy e).elim
  have hcx : ∀ y ∈ l1 ++ x :: l2, ∀ o, o < 2 → w2.cell? ⟨y.b, o, none⟩ = w.cell? ⟨y.b, o, none⟩ := by
    intro y hy o ho
    refine (k2.cell (m.row _ _ (h.row y hy)).lt (hbm y hy)).trans (m.cell y.b o fun a ha e => ?_)
    rcases List.mem_cons.1 ha with rfl | ha
    · exact (hbl y hy e.symm).elim
    · obtain ⟨z, hz, rfl⟩ := List.mem_map.1 ha
      simp; omega
  refine ⟨?_, ?_, (m.row _ _ h.head).kept k2 hlm, fun y hy => (m.row _ _ (h.row y (hmem y hy))).kept k2 (hbm y (hmem y hy)), (hcl 0 (by omega) (by omega)).trans h.most, (hcl 1 (by omega) (by omega)).trans h.zk,
    (hcl 5 (by omega) (by omega)).trans h.links, fun y hy => (hcx y (hmem y hy) 0 (by omega)).trans (h.key y (hmem y hy)), fun y hy => (hcx y (hmem y hy) 1 (by omega)).trans (h.val y (hmem y hy)), ?_, ht⟩
  · simp only [List.map_append, List.map_cons] at hnd ⊢
    grind
  · simp only [List.map_append, List.map_cons] at hks ⊢
    grind
  · refine hl.kept (w := w1) ⟨?_, ?_⟩ k2 ?_
    · have := h.laid.nodup
      simp only [spots, List.map_cons, List.map_map, List.map_append] at this ⊢
      grind
    · intro a ha
      have ha' : a ∈ (bl, 1) :: spots (l1 ++ x :: l2) := by simp [spots] at ha ⊢; grind
      obtain ⟨n, hn, hr⟩ := h.laid.row a ha'
      exact ⟨n, hn, m.row _ _ hr⟩
    · intro a ha
      rcases List.mem_cons.1 ha with rfl | ha
      · exact hlm
      · obtain ⟨y, hy, rfl⟩ := List.mem_map.1 ha
        exact hbm y (hmem y hy)

/-- What a link of its own is, ahead of its being put into the ring. -/
structure Loose (K : KeyK κ) (V : ν → Value) (w : World) (x : Ent κ ν) : Prop where
  row : RowAt w x.b 4
  key : w.cell? ⟨x.b, 0, none⟩ = some (K.enc x.k)
  val : w.cell? ⟨x.b, 1, none⟩ = some (V x.v)

theorem Lru.ring_then {w2 : World} {x : Ent κ ν} (h : Lru K V zk w bl bm most xs) (hx : Loose K V w x) (hf : ¬ Lfp bl bm xs x.b) (k2 : Kept (fun b => b = bm) w w2) :
    Linked w2 (bl, 1) (spots xs) ∧ Laid w2 ((bl, 1) :: (spots xs ++ [(x.b, 0)])) := by
  have hnd := h.nodup
  have hbm : ∀ y ∈ xs, y.b ≠ bm := by
    intro y hy e
    have : bm ∈ xs.map (·.b) := List.mem_map.2 ⟨y, hy, e⟩
    grind
  have hlm : bl ≠ bm := by grind
  have hxl : x.b ≠ bl := fun e => hf (.inl e)
  have hxm : x.b ≠ bm := fun e => hf (.inr (.inl e))
  have hxx : ∀ y ∈ xs, y.b ≠ x.b := fun y hy e => hf (.inr (.inr ⟨y, hy, e⟩))
  refine ⟨h.linked.kept h.laid k2 fun a ha => ?_, ?_, ?_⟩
  · rcases List.mem_cons.1 ha with rfl | ha
    · exact hlm
    · obtain ⟨y, hy, rfl⟩ := List.mem_map.1 ha
      exact hbm y hy
  · have := h.laid.nodup
    have hni : x.b ∉ (spots xs).map (·.1) := by
      intro hm
      obtain ⟨a, ha, e⟩ := List.mem_map.1 hm
      obtain ⟨y, hy, rfl⟩ := List.mem_map.1 ha
      exact hxx y hy e
    simp only [List.map_cons, List.map_append, List.map_nil] at this ⊢
    grind
  · intro a ha
    have : a ∈ (bl, 1) :: spots xs ∨ a = (x.b, 0) := by grind
    rcases this with ha | rfl
    · obtain ⟨n, hn, hr⟩ := h.laid.row a ha
      refine ⟨n, hn, hr.kept k2 ?_⟩
      rcases List.mem_cons.1 ha with rfl | ha
      · exact hlm
      · obtain ⟨y, hy, rfl⟩ := List.mem_map.1 ha
        exact hbm y hy
    · exact ⟨4, by simp, hx.row.kept k2 hxm⟩

/-- One that is new: into the table, and to the end of the ring. -/
theorem Lru.added {w2 w3 : World} {x : Ent κ ν} (h : Lru K V zk w bl bm most xs) (hx : Loose K V w x) (hf : ¬ Lfp bl bm xs x.b) (hk : ∀ y ∈ xs, y.k ≠ x.k)
    (ht : Tab K w2 bm (xs ++ [x])) (k2 : Kept (fun b => b = bm) w w2) (m : Moved ((bl, 1) :: (spots xs ++ [(x.b, 0)])) w2 w3) (hl : Linked w3 (bl, 1) (spots xs ++ [(x.b, 0)])) :
    Lru K V zk w3 bl bm most (xs ++ [x]) := by
  have hnd := h.nodup
  have hks := h.keys
  have hbm : ∀ y ∈ xs, y.b ≠ bm := by
    intro y hy e
    have : bm ∈ xs.map (·.b) := List.mem_map.2 ⟨y, hy, e⟩
    grind
  have hbl : ∀ y ∈ xs, y.b ≠ bl := by
    intro y hy e
    have : bl ∈ xs.map (·.b) := List.mem_map.2 ⟨y, hy, e⟩
    grind
  have hlm : bl ≠ bm := by grind
  have hxl : x.b ≠ bl := fun e => hf (.inl e)
  have hxm : x.b ≠ bm := fun e => hf (.inr (.inl e))
  have hxx : ∀ y ∈ xs, y.b ≠ x.b := fun y hy e => hf (.inr (.inr ⟨y, hy, e⟩))
  have hcl : ∀ o, o ≠ 3 → o ≠ 4 → w3.cell? ⟨bl, o, none⟩ = w.cell? ⟨bl, o, none⟩ := by
    intro o h3 h4
    refine (m.cell bl o fun a ha e => ?_).trans (k2.cell h.head.lt hlm)
    have : a = (bl, 1) ∨ a ∈ spots xs ∨ a = (x.b, 0) := by grind
    rcases this with rfl | ha | rfl
    · simp; omega
    · obtain ⟨y, hy, rfl⟩ := List.mem_map.1 ha
      exact (hbl y hy e).elim
    · exact (hxl e).elim
  have hcx : ∀ b, b ≠ bl → b ≠ bm → b < w.heap.size → ∀ o, o < 2 → w3.cell? ⟨b, o, none⟩ = w.cell? ⟨b, o, none⟩ := by
    intro b hb1 hb2 hb o ho
    refine (m.cell b o fun a ha e => ?_).trans (k2.cell hb hb2)
    have : a = (bl, 1) ∨ a ∈ spots xs ∨ a = (x.b, 0) := by grind
    rcases this with rfl | ha | rfl
    · exact (hb1 e.symm).elim
    · obtain ⟨z, hz, rfl⟩ := List.mem_map.1 ha
      simp; omega
    · simp; omega
  have hrow : ∀ y ∈ xs ++ [x], RowAt w y.b 4 := by
    intro y hy
    rcases List.mem_append.1 hy with hy | hy
    · exact h.row y hy
    · rw [List.mem_singleton.1 hy]; exact hx.row
  have hyl : ∀ y ∈ xs ++ [x], y.b ≠ bl ∧ y.b ≠ bm := by
    intro y hy
    rcases List.mem_append.1 hy with hy | hy
    · exact ⟨hbl y hy, hbm y hy⟩
    · rw [List.mem_singleton.1 hy]; exact ⟨hxl, hxm⟩
  refine ⟨?_, ?_, m.row _ _ (h.head.kept k2 hlm), fun y hy => m.row _ _ ((hrow y hy).kept k2 (hyl y hy).2), (hcl 0 (by omega) (by omega)).trans h.most, (hcl 1 (by omega) (by omega)).trans h.zk,
    (hcl 5 (by omega) (by omega)).trans h.links, ?_, ?_, by simpa [spots] using hl, ht.kept m.kept ?_⟩
  · have hni : x.b ∉ xs.map (·.b) := by
      intro hm
      obtain ⟨y, hy, e⟩ := List.mem_map.1 hm
      exact hxx y hy e
    simp only [List.map_append, List.map_cons, List.map_nil]
    grind
  · have hni : x.k ∉ xs.map (·.k) := by
      intro hm
      obtain ⟨y, hy, e⟩ := List.mem_map.1 hm
      exact hk y hy e
    simp only [List.map_append, List.map_cons, List.map_nil]
    grind
  · intro y hy
    rw [hcx y.b (hyl y hy).1 (hyl y hy).2 (hrow y hy).lt 0 (by omega)]
    rcases List.mem_append.1 hy with hy | hy
    · exact h.key y hy
    · rw [List.mem_singleton.1 hy]; exact hx.key
  · intro y hy
    rw [hcx y.b (hyl y hy).1 (hyl y hy).2 (hrow y hy).lt 1 (by omega)]
    rcases List.mem_append.1 hy with hy | hy
    · exact h.val y hy
    · rw [List.mem_singleton.1 hy]; exact hx.val
  · intro hb
    obtain ⟨a, ha, e⟩ := List.mem_map.1 hb
    have : a = (bl, 1) ∨ a ∈ spots xs ∨ a = (x.b, 0) := by grind
    rcases this with rfl | ha | rfl
    · exact hlm e
    · obtain ⟨y, hy, rfl⟩ := List.mem_map.1 ha
      exact hbm y hy e
    · exact hxm e

/-- What a walk reads of a list: the one that was used longest ago. -/
theorem Lru.first (h : Lru K V zk w bl bm most xs) : nx w (bl, 1) = some (ptr (behind (bl, 1) (spots xs))) := (linked_ends h.linked).2

end
end Go.Proofs.Ytalahbmahpgkeaa
