/- A list and the document's list, side by side: what a put, a get, a drop make of both. -/
import Derived.Test.YteiilokhkpaoeaaLruSI
import Derived.Test.YteiilokhkpaoeaaRefNine
import Derived.Test.YteiilokhkpaoeaaKeys
namespace Go.Proofs.Yteiilokhkpaoeaa
set_option linter.unusedVariables false
set_option linter.unusedSimpArgs false
open Go.RowKit Go.MapKept

/-- The entries, as the document has them. -/
def prs (xs : List (Ent ByteArray Int)) : List P9 := xs.map fun x => (x.k, x.v)
theorem prs_keys (xs : List (Ent ByteArray Int)) : (prs xs).map (·.1) = xs.map (·.k) := by simp [prs]
theorem prs_drop (k : ByteArray) (xs : List (Ent ByteArray Int)) : dropP k (prs xs) = prs (dropE k xs) := by
  unfold dropP prs dropE
  rw [List.filter_map]
  rfl
theorem prs_len (xs : List (Ent ByteArray Int)) : (prs xs).length = xs.length := by simp [prs]
theorem drop_one {xs : List (Ent ByteArray Int)} {k : ByteArray} {x : Ent ByteArray Int} (hn : (xs.map (·.k)).Nodup) (h : lookE k xs = some x) : (dropE k xs).length + 1 = xs.length := by
  rcases split_key hn k with ⟨e, _, _⟩ | ⟨l1, y, l2, rfl, _, _, e⟩
  · rw [e] at h; cases h
  · rw [e]; simp <;> omega
theorem prs_put {most : Int} {nb : Nat} {k : ByteArray} {v : Int} {xs : List (Ent ByteArray Int)} (hn : (xs.map (·.k)).Nodup) (hl : (xs.length : Int) ≤ most) (h1 : 1 ≤ most) :
    putP most k v (prs xs) = prs (putE most nb k v xs) ∧ outP most k v (prs xs) = outE most k xs ∧ ((putE most nb k v xs).length : Int) ≤ most := by
  unfold putP outP putE outE
  rw [prs_drop, prs_len]
  rcases split_key hn k with ⟨e1, e2, e3⟩ | ⟨l1, x, l2, hx, hk, e2, e3⟩
  · simp only [e1, e3]
    by_cases hr : (xs.length : Int) + 1 ≤ most
    · simp only [if_pos hr]
      exact ⟨by simp [prs], trivial, by simp <;> omega⟩
    · simp only [if_neg hr]
      cases xs with
      | nil => simp at hr <;> omega
      | cons y ys =>
        simp only [List.length_cons, Int.natCast_add] at hl hr
        exact ⟨by simp [prs], by simp [prs], by simp <;> omega⟩
  · have hd := drop_one hn e2
    simp only [e2]
    rw [if_pos (by omega), if_pos (by omega)]
    refine ⟨?_, rfl, by simp <;> omega⟩
    have hxk : x.k = k := hk
    simp [prs, hxk]

/-- The two lists in memory. -/
structure Both (w : World) (bl bm br : Nat) (most most' : Int) (sv : Value) (xs : List (Ent ByteArray Int)) : Prop where
  l : SI.L w bl bm most xs
  r : Ref9 w br most' sv (prs xs)
  dis : ∀ b, Rfp br sv b → ¬ Lfp bl bm xs b
  len : (xs.length : Int) ≤ most
/-- Their blocks. -/
def Bfp (bl bm br : Nat) (sv : Value) (xs : List (Ent ByteArray Int)) (b : Nat) : Prop := Lfp bl bm xs b ∨ Rfp br sv b

section
variable {w w1 w2 : World} {bl bm br : Nat} {most most' : Int} {sv sv' : Value} {xs xs' : List (Ent ByteArray Int)}

theorem Both.lt (h : Both w bl bm br most most' sv xs) : ∀ b, Bfp bl bm br sv xs b → b < w.heap.size := fun b hb => hb.elim (h.l.lt b) (h.r.lt b)
theorem Both.kept {S : Nat → Prop} (h : Both w bl bm br most most' sv xs) (k : Kept S w w1) (hS : ∀ b, Bfp bl bm br sv xs b → ¬ S b) : Both w1 bl bm br most most' sv xs :=
  ⟨h.l.kept k (fun b hb => hS b (.inl hb)), h.r.kept k (fun b hb => hS b (.inr hb)), h.dis, h.len⟩
theorem Both.twin (h : Both w bl bm br most most' sv xs) (t : Twin w1 w) : Both w1 bl bm br most most' sv xs := ⟨h.l.twin t, h.r.twin t, h.dis, h.len⟩
theorem Both.keys (h : Both w bl bm br most most' sv xs) : ((prs xs).map (·.1)).Nodup := by rw [prs_keys]; exact h.l.keys
theorem Both.ref1 (h : Both w bl bm br most most' sv xs) (k1 : Kept (Lfp bl bm xs) w w1) : Ref9 w1 br most' sv (prs xs) := h.r.kept k1 (fun b hb hl => h.dis b hb hl)

/-- A step on the one, and on the other. -/
theorem Both.step (h : Both w bl bm br most most' sv xs) (h1 : SI.L w1 bl bm most xs') (k1 : Kept (Lfp bl bm xs) w w1) (f1 : ∀ b, Lfp bl bm xs' b → Lfp bl bm xs b ∨ w.heap.size ≤ b)
    (r2 : Ref9 w2 br most' sv' (prs xs')) (k2 : Kept (Rfp br sv) w1 w2) (f2 : ∀ b, Rfp br sv' b → Rfp br sv b ∨ w1.heap.size ≤ b) (hl : (xs'.length : Int) ≤ most) :
    Both w2 bl bm br most most' sv' xs' ∧ Kept (Bfp bl bm br sv xs) w w2 ∧ (∀ b, Bfp bl bm br sv' xs' b → Bfp bl bm br sv xs b ∨ w.heap.size ≤ b) := by
  have hs := k1.size
  refine ⟨⟨h1.kept k2 (fun b hb hr => ?_), r2, fun b hb hL => ?_, hl⟩, (k1.mono (fun _ _ e => .inl e)).trans k2 (fun b _ e => .inr e), fun b hb => ?_⟩
  · rcases f1 b hb with e | e
    · exact h.dis b hr e
    · have := h.r.lt b hr; omega
  · rcases f2 b hb with e | e
    · rcases f1 b hL with e' | e'
      · exact h.dis b e e'
      · have := h.r.lt b e; omega
    · have := h1.lt b hL; omega
  · rcases hb with hb | hb
    · exact (f1 b hb).imp .inl id
    · exact (f2 b hb).imp .inr (fun e => by omega)
end
end Go.Proofs.Yteiilokhkpaoeaa
