/- What stands under the walks, part F. -/
import Derived.Test.YtdkcnigghcbnpaaGreatFew18
import Derived.Test.YtdkcnigghcbnpaaGreatOf18
import Derived.Test.YtdkcnigghcbnpaaGreatSame18
/- Images of few: plain facts. -/
namespace Go.Proofs.YtdkcnigghcbnpaaGreat
set_option linter.unusedVariables false
set_option linter.unusedSimpArgs false
open Go.RowKit Go.MapKept

theorem few_small (x : GI) : (fewI x).small := by
  refine ⟨?_, ?_, ?_, fun p hp => ?_, fun d hd => ?_⟩
  · show ((x.P.take 70).map fewP).length ≤ _
    rw [List.length_map, List.length_take]; omega
  · show ((x.D.take 70).map fewD).length ≤ _
    rw [List.length_map, List.length_take]; omega
  · show (x.L.take 70).length ≤ _
    rw [List.length_take]; omega
  · obtain ⟨q, -, rfl⟩ := List.mem_map.1 hp
    show (q.maps.take 20).length ≤ _
    rw [List.length_take]; omega
  · obtain ⟨q, -, rfl⟩ := List.mem_map.1 hd
    show (Go.Proofs.YtdkcnigghcbnpaaGreat.sub q.data 0 (min q.data.size 300)).size ≤ _
    rw [sub_size _ 0 _ (by omega)]; omega
theorem few_d5 (x : GI) : ∀ d ∈ (fewI x).D, d.data.size ≤ 5000 := fun d hd => by
  obtain ⟨q, -, rfl⟩ := List.mem_map.1 hd
  show (Go.Proofs.YtdkcnigghcbnpaaGreat.sub q.data 0 (min q.data.size 300)).size ≤ _
  rw [sub_size _ 0 _ (by omega)]; omega
theorem byteVs_baL (L : List UInt8) : byteVs (baL L) = u8L L := by
  unfold byteVs nums u8L
  rw [baL_list, List.map_map]
  rfl
theorem src_u8 {w : World} {a : Option Addr} {n : Nat} {L : List UInt8} (h : BytesAt w a n (baL L)) : Holds9 w a (u8L L) := by
  rw [← byteVs_baL]
  exact h.src
theorem u8L_one (L : List UInt8) : ∀ u ∈ u8L L, u.oneCell' = true := fun u hu => by
  obtain ⟨x, -, rfl⟩ := List.mem_map.1 hu
  rfl
theorem sub_baL (L : List UInt8) (k : Nat) : Go.Proofs.YtdkcnigghcbnpaaGreat.sub (baL L) 0 k = baL (L.take k) := by
  unfold Go.Proofs.YtdkcnigghcbnpaaGreat.sub
  rw [baL_list, List.drop_zero]
  rfl
theorem ba_self (k : ByteArray) : baL k.data.toList = k := by
  cases k
  rfl
theorem enc_pos (x : GI) : 0 < (encI x).length := by
  show 0 < ((numL 721 ++ cI.enc (natI x) : List UInt8)).length
  rw [List.length_append, numL_len]
  omega
theorem bytes_take {w : World} {a : Option Addr} {n : Nat} {L : List UInt8} (h : BytesAt w a n (baL L)) {k : Nat} (hk : k ≤ n) : BytesAt w a (L.take k).length (baL (L.take k)) := by
  have h1 := h.pre hk
  have hn : n = L.length := by rw [h.1, baL_size]
  rw [sub_baL] at h1
  rw [List.length_take, Nat.min_eq_left (by omega)]
  exact h1
end Go.Proofs.YtdkcnigghcbnpaaGreat

/- What ImageBack, ImageUnlike and ImageMore share: images of few; the parameter's cells written over. -/
namespace Go.Proofs.YtdkcnigghcbnpaaGreat
set_option linter.unusedVariables false
set_option linter.unusedSimpArgs false
open Go.RowKit Go.MapKept

theorem BytZ.off {w : World} {Z : Nat → Prop} {a : Option Addr} {k : ByteArray} {ib : Nat} (h : BytZ w Z a k) (hs : ∀ i c, w.cell? ⟨ib, i, none⟩ = some c → ∃ a n m, c = .slice a n m) : BytZ w (fun b => Z b ∧ b ≠ ib) a k := ⟨h.1, fun b o h0 e => ⟨h.2 b o h0 e, fun eb => by
  subst eb
  obtain ⟨b', o', e', -, hc⟩ := h.1.2.2 0 h0
  rw [e] at e'
  cases e'
  obtain ⟨_, _, _, h⟩ := hs _ _ hc
  cases h⟩⟩
theorem RowZ.off {α : Type} {T : Thing α} {w : World} {Z : Nat → Prop} {a : Option Addr} {l : List α} {ib : Nat} (h : RowZ T w Z a l) (hs : ∀ i c, w.cell? ⟨ib, i, none⟩ = some c → ∃ a n m, c = .slice a n m)
    (hT : ∀ x cs, T.at_ w Z x cs → T.at_ w (fun b => Z b ∧ b ≠ ib) x cs ∧ ∃ s, cs[0]? = some (.string s)) : RowZ T w (fun b => Z b ∧ b ≠ ib) a l := fun i x hx => by
  obtain ⟨b, o, cs, e, hb, hz, hc, hat⟩ := h i x hx
  obtain ⟨hat', s, h0⟩ := hT x cs hat
  refine ⟨b, o, cs, e, hb, ⟨hz, fun eb => ?_⟩, hc, hat'⟩
  subst eb
  obtain ⟨_, _, _, h⟩ := hs _ _ (hc 0 _ h0)
  cases h
theorem ImgAt.off {w : World} {Z : Nat → Prop} {v : Value} {x : GI} {ib : Nat} (h : ImgAt w Z v x) (hs : ∀ i c, w.cell? ⟨ib, i, none⟩ = some c → ∃ a n m, c = .slice a n m) : ImgAt w (fun b => Z b ∧ b ≠ ib) v x := by
  obtain ⟨pa, pc, da, dc, la, lc, e, h1, h2, h3, h4, h5, h6⟩ := h
  refine ⟨pa, pc, da, dc, la, lc, e, h1, h2, h3, h4.off hs ?_, h5.off hs ?_, h6.off hs ?_⟩
  · rintro x cs ⟨ca, cc, ma, mc, rfl, g1, g2, g3, g4⟩
    exact ⟨⟨ca, cc, ma, mc, rfl, g1, g2, g3.off hs, g4.off hs (fun x cs e => ⟨e, x, by subst e; rfl⟩)⟩, _, rfl⟩
  · rintro x cs ⟨da, dc, rfl, g1, g2⟩
    exact ⟨⟨da, dc, rfl, g1, g2.off hs⟩, _, rfl⟩
  · intro x cs e
    exact ⟨e, x.nm, by subst e; rfl⟩
/-- The image's own cells are written over with the few. -/
theorem few_put {w : World} {ib : Nat} {p0 p1 p2 v0 v1 v2 : Value} {t : TypeId} {y : GI} (hb : w.heap[ib]? = some (.cells #[p0, p1, p2] t (0, 0))) (h0 : ∃ a n m, p0 = .slice a n m) (h1 : ∃ a n m, p1 = .slice a n m) (h2 : ∃ a n m, p2 = .slice a n m)
    (h : ImgAt w (fun _ => True) (.agg #[v0, v1, v2]) y) : ∃ w', ((w.setCell ⟨ib, 0, none⟩ v0).setCell ⟨ib, 1, none⟩ v1).setCell ⟨ib, 2, none⟩ v2 = w' ∧ ImgAt w' (fun b => b ≠ ib) (.agg #[v0, v1, v2]) y ∧ Kept (fun b => b = ib) w w' ∧ w'.heap[ib]? = some (.cells #[v0, v1, v2] t (0, 0)) := by
  have k : Kept (fun b => b = ib) w _ := ((Kept.one_set w ⟨ib, 0, none⟩ v0).trans (Kept.one_set _ ⟨ib, 1, none⟩ v1) (fun _ _ e => e)).trans (Kept.one_set _ ⟨ib, 2, none⟩ v2) (fun _ _ e => e)
  have hs : ∀ i c, w.cell? ⟨ib, i, none⟩ = some c → ∃ a n m, c = .slice a n m := fun i c hc => by
    have hc : (#[p0, p1, p2] : Array Value)[i]? = some c := by
      rw [World.cell?] at hc
      simpa [hb] using hc
    match i, hc with
    | 0, hc => cases hc; exact h0
    | 1, hc => cases hc; exact h1
    | 2, hc => cases hc; exact h2
    | i + 3, hc => simp at hc
  refine ⟨_, rfl, ((h.off hs).kept k (fun b _ hb e => hb.2 e)).mono (fun b _ hb => hb.2), k, ?_⟩
  simp [World.setCell, Array.getElem?_modify, hb]
theorem rep_mem {α : Type} {A : Codec α} {l : List α} {y : α} (h : y ∈ l) : (A.enc y).length ≤ (repE A l).length := by
  unfold repE
  induction l with
  | nil => cases h
  | cons z l ih =>
    rw [List.flatMap_cons, List.length_append]
    rcases List.mem_cons.1 h with rfl | h
    · omega
    · have := ih h; omega
theorem data_le {x : GI} {d : GD} (h : d ∈ x.D) : d.data.size ≤ (encI x).length := by
  have e : (encI x).length = 4 + ((4 + (repE cP (x.P.map natP)).length) + ((4 + (repE cD (x.D.map natD)).length) + (4 + (repE cL (x.L.map natL)).length))) := by
    show ((numL 721 ++ ((numL _ ++ repE cP (x.P.map natP)) ++ ((numL _ ++ repE cD (x.D.map natD)) ++ (numL _ ++ repE cL (x.L.map natL)))) : List UInt8)).length = _
    simp only [List.length_append, numL_len]
  have h1 := rep_mem (A := cD) (List.mem_map_of_mem (f := natD) h)
  have h2 : (cD.enc (natD d)).length = (txtL d.m.nm).length + (4 + (4 + (4 + (4 + (4 + d.data.size))))) := by
    show (txtL d.m.nm ++ (numL _ ++ (numL _ ++ (numL _ ++ (numL _ ++ (numL _ ++ d.data.data.toList)))))).length = _
    simp only [List.length_append, numL_len]
    rw [show d.data.data.toList.length = d.data.size from by simp]
  omega
theorem right_small {x : GI} (h : rightGI x = true) (hd : ∀ d ∈ x.D, d.data.size ≤ 5000) : x.small := by
  obtain ⟨r1, r2, r3⟩ := right_all h
  unfold rightGI at h
  simp only [Bool.and_eq_true, decide_eq_true_eq] at h
  exact ⟨by omega, by omega, by omega, fun p hp => by have := (right_nums (r1 p hp)).2.2.1; omega, fun d h => by have := hd d h; omega⟩
theorem few_1000 (x : GI) : (fewI x).P.length ≤ 1000 ∧ (fewI x).D.length ≤ 1000 ∧ (fewI x).L.length ≤ 1000 := by
  refine ⟨?_, ?_, ?_⟩
  · show ((x.P.take 70).map fewP).length ≤ _
    rw [List.length_map, List.length_take]; omega
  · show ((x.D.take 70).map fewD).length ≤ _
    rw [List.length_map, List.length_take]; omega
  · show (x.L.take 70).length ≤ _
    rw [List.length_take]; omega
theorem few_maps (x : GI) : ∀ p ∈ (fewI x).P, p.maps.length ≤ 1000 := fun p hp => by
  obtain ⟨q, -, rfl⟩ := List.mem_map.1 hp
  show (q.maps.take 20).length ≤ _
  rw [List.length_take]; omega
theorem baL_inj {a b : List UInt8} (h : baL a = baL b) : a = b := by
  rw [← baL_list a, h, baL_list]
end Go.Proofs.YtdkcnigghcbnpaaGreat
