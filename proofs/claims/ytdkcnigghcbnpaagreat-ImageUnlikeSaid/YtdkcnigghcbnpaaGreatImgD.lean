/- What stands under the walks, part D. -/
import Derived.Test.YtdkcnigghcbnpaaGreatGenA
/- Writing and reading, plain: what is written is read, and what is read was written. No program is named here. -/
namespace Go.Proofs.YtdkcnigghcbnpaaGreat
set_option linter.unusedVariables false
set_option linter.unusedSimpArgs false

/-- A way to write things, and to read them. -/
structure Codec (α : Type) where
  enc : α → List UInt8
  dec : List UInt8 → Option (α × List UInt8)
  ok : α → Prop
  fwd : ∀ x r, ok x → dec (enc x ++ r) = some (x, r)
  bwd : ∀ bs x r, dec bs = some (x, r) → ok x ∧ bs = enc x ++ r

def numL (n : Nat) : List UInt8 := [UInt8.ofNat (n / 16777216), UInt8.ofNat (n / 65536), UInt8.ofNat (n / 256), UInt8.ofNat n]
def dNum : List UInt8 → Option (Nat × List UInt8)
  | a :: b :: c :: d :: r => some (((a.toNat * 256 + b.toNat) * 256 + c.toNat) * 256 + d.toNat, r)
  | _ => none
theorem numL_len (n : Nat) : (numL n).length = 4 := rfl
theorem dNum_num (n : Nat) (r : List UInt8) (h : n < 4294967296) : dNum (numL n ++ r) = some (n, r) := by
  show some (_, r) = some (n, r)
  congr 2
  simp only [UInt8.toNat_ofNat']
  omega
theorem num_dNum {bs r : List UInt8} {n : Nat} (h : dNum bs = some (n, r)) : n < 4294967296 ∧ bs = numL n ++ r := by
  match bs, h with
  | a :: b :: c :: d :: r', h =>
    have h : some (((a.toNat * 256 + b.toNat) * 256 + c.toNat) * 256 + d.toNat, r') = some (n, r) := h
    injection h with h
    injection h with h1 h2
    subst h2
    have ha := a.toNat_lt
    have hb := b.toNat_lt
    have hc := c.toNat_lt
    have hd := d.toNat_lt
    refine ⟨by omega, ?_⟩
    have e : ∀ (u : UInt8) (k : Nat), k % 256 = u.toNat → UInt8.ofNat k = u := fun u k hk => by
      apply UInt8.toNat_inj.1
      rw [UInt8.toNat_ofNat', ← hk]
    unfold numL
    rw [e a (n / 16777216) (by omega), e b (n / 65536) (by omega), e c (n / 256) (by omega), e d n (by omega)]
    rfl
/-- A number. -/
def cNum : Codec Nat := ⟨numL, dNum, fun n => n < 4294967296, fun x r h => dNum_num x r h, fun _ _ _ h => num_dNum h⟩
/-- A text, with its length ahead. -/
def txtL (s : ByteArray) : List UInt8 := numL s.size ++ s.data.toList
def dTxt (bs : List UInt8) : Option (ByteArray × List UInt8) :=
  match dNum bs with
  | some (n, r) => if n ≤ r.length then some (⟨(r.take n).toArray⟩, r.drop n) else none
  | none => none
theorem bytes_eq {a b : ByteArray} (h : a.data.toList = b.data.toList) : a = b := by
  cases a; cases b
  congr 1
  exact Array.toList_inj.1 h
theorem dTxt_txt (s : ByteArray) (r : List UInt8) (h : s.size < 4294967296) : dTxt (txtL s ++ r) = some (s, r) := by
  have hs : s.data.toList.length = s.size := by simp
  unfold dTxt txtL
  rw [List.append_assoc, dNum_num _ _ h]
  simp only
  rw [if_pos (by rw [List.length_append, hs]; omega), ← hs, List.take_left, List.drop_left]
theorem txt_dTxt {bs r : List UInt8} {s : ByteArray} (h : dTxt bs = some (s, r)) : s.size < 4294967296 ∧ bs = txtL s ++ r := by
  unfold dTxt at h
  cases hd : dNum bs with
  | none => rw [hd] at h; cases h
  | some p =>
    obtain ⟨n, r'⟩ := p
    rw [hd] at h
    simp only at h
    split at h
    · rename_i hn
      injection h with h
      injection h with h1 h2
      subst h1
      subst h2
      obtain ⟨h3, h4⟩ := num_dNum hd
      have hsz : (⟨(r'.take n).toArray⟩ : ByteArray).size = n := by
        show ((r'.take n).toArray).size = n
        rw [List.size_toArray, List.length_take]
        omega
      refine ⟨by rw [hsz]; exact h3, ?_⟩
      rw [h4]
      unfold txtL
      rw [hsz, List.append_assoc]
      show numL n ++ r' = numL n ++ ((r'.take n).toArray.toList ++ r'.drop n)
      rw [List.take_append_drop]
    · cases h
def cTxt : Codec ByteArray := ⟨txtL, dTxt, fun s => s.size < 4294967296, fun x r h => dTxt_txt x r h, fun _ _ _ h => txt_dTxt h⟩
/-- One behind the other. -/
def cPair {α β : Type} (A : Codec α) (B : Codec β) : Codec (α × β) where
  enc x := A.enc x.1 ++ B.enc x.2
  dec bs := match A.dec bs with
    | some (a, r) => (match B.dec r with | some (b, r') => some ((a, b), r') | none => none)
    | none => none
  ok x := A.ok x.1 ∧ B.ok x.2
  fwd x r h := by
    simp only [List.append_assoc, A.fwd _ _ h.1, B.fwd _ _ h.2]
  bwd bs x r h := by
    cases ha : A.dec bs with
    | none => rw [ha] at h; cases h
    | some p =>
      obtain ⟨a, r1⟩ := p
      rw [ha] at h
      simp only at h
      cases hb : B.dec r1 with
      | none => rw [hb] at h; cases h
      | some q =>
        obtain ⟨b, r2⟩ := q
        rw [hb] at h
        simp only [Option.some.injEq, Prod.mk.injEq] at h
        obtain ⟨rfl, rfl⟩ := h
        obtain ⟨h1, h2⟩ := A.bwd _ _ _ ha
        obtain ⟨h3, h4⟩ := B.bwd _ _ _ hb
        exact ⟨⟨h1, h3⟩, by rw [h2, h4, List.append_assoc]⟩
theorem cPair_none1 {α β : Type} {A : Codec α} {B : Codec β} {bs : List UInt8} (h : A.dec bs = none) : (cPair A B).dec bs = none := by
  unfold cPair
  simp only [h]
theorem cPair_none2 {α β : Type} {A : Codec α} {B : Codec β} {bs r : List UInt8} {a : α} (h : A.dec bs = some (a, r)) (h2 : B.dec r = none) : (cPair A B).dec bs = none := by
  unfold cPair
  simp only [h, h2]
theorem cPair_some {α β : Type} {A : Codec α} {B : Codec β} {bs r r' : List UInt8} {a : α} {b : β} (h : A.dec bs = some (a, r)) (h2 : B.dec r = some (b, r')) : (cPair A B).dec bs = some ((a, b), r') := by
  unfold cPair
  simp only [h, h2]
/-- So many, one behind the other. -/
def repD {α : Type} (A : Codec α) : Nat → List UInt8 → Option (List α × List UInt8)
  | 0, bs => some ([], bs)
  | n + 1, bs => match A.dec bs with
    | some (a, r) => (match repD A n r with | some (l, r') => some (a :: l, r') | none => none)
    | none => none
def repE {α : Type} (A : Codec α) (l : List α) : List UInt8 := l.flatMap A.enc
theorem rep_fwd {α : Type} (A : Codec α) : ∀ (l : List α) (r : List UInt8), (∀ x ∈ l, A.ok x) → repD A l.length (repE A l ++ r) = some (l, r)
  | [], r, _ => rfl
  | x :: l, r, h => by
    show (match A.dec (repE A (x :: l) ++ r) with | some (a, r) => (match repD A l.length r with | some (l, r') => some (a :: l, r') | none => none) | none => none) = _
    have e : repE A (x :: l) ++ r = A.enc x ++ (repE A l ++ r) := by unfold repE; rw [List.flatMap_cons, List.append_assoc]
    rw [e, A.fwd _ _ (h x (.head _))]
    simp only
    rw [rep_fwd A l r (fun y hy => h y (.tail _ hy))]
theorem rep_bwd {α : Type} (A : Codec α) : ∀ (n : Nat) (bs : List UInt8) (l : List α) (r : List UInt8), repD A n bs = some (l, r) → l.length = n ∧ (∀ x ∈ l, A.ok x) ∧ bs = repE A l ++ r
  | 0, bs, l, r, h => by
    injection h with h
    injection h with h1 h2
    subst h1; subst h2
    exact ⟨rfl, fun _ h => (by cases h), rfl⟩
  | n + 1, bs, l, r, h => by
    have h : (match A.dec bs with | some (a, r) => (match repD A n r with | some (l, r') => some (a :: l, r') | none => none) | none => none) = some (l, r) := h
    cases ha : A.dec bs with
    | none => rw [ha] at h; cases h
    | some p =>
      obtain ⟨a, r1⟩ := p
      rw [ha] at h
      simp only at h
      cases hb : repD A n r1 with
      | none => rw [hb] at h; cases h
      | some q =>
        obtain ⟨l', r2⟩ := q
        rw [hb] at h
        simp only [Option.some.injEq, Prod.mk.injEq] at h
        obtain ⟨rfl, rfl⟩ := h
        obtain ⟨h1, h2⟩ := A.bwd _ _ _ ha
        obtain ⟨h3, h4, h5⟩ := rep_bwd A n r1 l' r2 hb
        refine ⟨by rw [List.length_cons, h3], fun x hx => ?_, ?_⟩
        · rcases List.mem_cons.1 hx with rfl | hx
          · exact h1
          · exact h4 x hx
        · rw [h2, h5]
          unfold repE
          rw [List.flatMap_cons, List.append_assoc]
theorem repD_snoc {α : Type} (A : Codec α) : ∀ (i : Nat) (bs : List UInt8) (l : List α) (r : List UInt8), repD A i bs = some (l, r) → repD A (i + 1) bs = (match A.dec r with | some (a, r') => some (l ++ [a], r') | none => none)
  | 0, bs, l, r, h => by
    injection h with h
    injection h with h1 h2
    subst h1; subst h2
    show (match A.dec bs with | some (a, r) => (match repD A 0 r with | some (l, r') => some (a :: l, r') | none => none) | none => none) = _
    cases A.dec bs with
    | none => rfl
    | some p => rfl
  | i + 1, bs, l, r, h => by
    have h : (match A.dec bs with | some (a, r) => (match repD A i r with | some (l, r') => some (a :: l, r') | none => none) | none => none) = some (l, r) := h
    show (match A.dec bs with | some (a, r) => (match repD A (i + 1) r with | some (l, r') => some (a :: l, r') | none => none) | none => none) = _
    cases ha : A.dec bs with
    | none => rw [ha] at h; cases h
    | some p =>
      obtain ⟨a, r1⟩ := p
      rw [ha] at h
      simp only at h ⊢
      cases hb : repD A i r1 with
      | none => rw [hb] at h; cases h
      | some q =>
        obtain ⟨l', r2⟩ := q
        rw [hb] at h
        simp only [Option.some.injEq, Prod.mk.injEq] at h
        obtain ⟨rfl, rfl⟩ := h
        rw [repD_snoc A i r1 l' r2 hb]
        cases A.dec r2 with
        | none => rfl
        | some p => rfl
theorem repD_none {α : Type} (A : Codec α) : ∀ (i : Nat) (bs : List UInt8), repD A i bs = none → repD A (i + 1) bs = none
  | 0, bs, h => by cases h
  | i + 1, bs, h => by
    have h : (match A.dec bs with | some (a, r) => (match repD A i r with | some (l, r') => some (a :: l, r') | none => none) | none => none) = none := h
    show (match A.dec bs with | some (a, r) => (match repD A (i + 1) r with | some (l, r') => some (a :: l, r') | none => none) | none => none) = none
    cases ha : A.dec bs with
    | none => rfl
    | some p =>
      obtain ⟨a, r1⟩ := p
      rw [ha] at h
      simp only at h ⊢
      cases hb : repD A i r1 with
      | none => rw [repD_none A i r1 hb]
      | some q => rw [hb] at h; cases h
/-- One that cannot be read: nor can so many. -/
theorem repD_stop {α : Type} (A : Codec α) {i : Nat} {bs r : List UInt8} {l : List α} (h : repD A i bs = some (l, r)) (hd : A.dec r = none) : ∀ n, i < n → repD A n bs = none := by
  intro n hn
  induction n with
  | zero => omega
  | succ n ih =>
    by_cases e : n = i
    · subst e
      rw [repD_snoc A n bs l r h, hd]
    · exact repD_none A n bs (ih (by omega))
/-- How many (at most M), and they. -/
def cRows {α : Type} (A : Codec α) (M : Nat) (hM : M < 4294967296) : Codec (List α) where
  enc l := numL l.length ++ repE A l
  dec bs := match dNum bs with
    | some (n, r) => if M < n then none else repD A n r
    | none => none
  ok l := l.length ≤ M ∧ ∀ x ∈ l, A.ok x
  fwd l r h := by
    simp only [List.append_assoc, dNum_num _ _ (Nat.lt_of_le_of_lt h.1 hM)]
    rw [if_neg (by have := h.1; omega), rep_fwd A l r h.2]
  bwd bs l r h := by
    cases hd : dNum bs with
    | none => rw [hd] at h; cases h
    | some p =>
      obtain ⟨n, r1⟩ := p
      rw [hd] at h
      simp only at h
      split at h
      · cases h
      · rename_i hn
        obtain ⟨h1, h2, h3⟩ := rep_bwd A n r1 l r h
        obtain ⟨-, h5⟩ := num_dNum hd
        exact ⟨⟨by omega, h2⟩, by rw [h5, h3, h1, List.append_assoc]⟩
/-- Two that are written alike are alike. -/
theorem Codec.inj {α : Type} (A : Codec α) {x y : α} (hx : A.ok x) (hy : A.ok y) (h : A.enc x = A.enc y) : x = y := by
  have h1 := A.fwd x [] hx
  have h2 := A.fwd y [] hy
  rw [h, h2] at h1
  injection h1 with h1
  injection h1 with h1 _
  exact h1.symm
end Go.Proofs.YtdkcnigghcbnpaaGreat

/- An image's bytes, plain. No program is named here. -/
namespace Go.Proofs.YtdkcnigghcbnpaaGreat
set_option linter.unusedVariables false
set_option linter.unusedSimpArgs false

/-- A program: its name, code, maps, context, most that it emits. A map: name, kind, key, value, max, data. A link: name, program, version. -/
abbrev IP := ByteArray × ByteArray × List ByteArray × Nat × Nat
abbrev IDm := ByteArray × Nat × Nat × Nat × Nat × ByteArray
abbrev IL := ByteArray × ByteArray × Nat
abbrev Img := List IP × List IDm × List IL
def cTxts : Codec (List ByteArray) := cRows cTxt 64 (by decide)
def cP : Codec IP := cPair cTxt (cPair cTxt (cPair cTxts (cPair cNum cNum)))
def cD : Codec IDm := cPair cTxt (cPair cNum (cPair cNum (cPair cNum (cPair cNum cTxt))))
def cL : Codec IL := cPair cTxt (cPair cTxt cNum)
def cI : Codec Img := cPair (cRows cP 64 (by decide)) (cPair (cRows cD 64 (by decide)) (cRows cL 64 (by decide)))
def imgL (x : Img) : List UInt8 := numL 721 ++ cI.enc x
def dImg (bs : List UInt8) : Option Img :=
  match dNum bs with
  | some (n, r) => if n = 721 then (match cI.dec r with | some (x, []) => some x | _ => none) else none
  | none => none
theorem dImg_img {x : Img} (h : cI.ok x) : dImg (imgL x) = some x := by
  unfold dImg imgL
  rw [dNum_num _ _ (by decide)]
  simp only
  rw [if_pos trivial, show cI.dec (cI.enc x) = some (x, []) from by have := cI.fwd x [] h; rwa [List.append_nil] at this]
theorem img_dImg {bs : List UInt8} {x : Img} (h : dImg bs = some x) : cI.ok x ∧ bs = imgL x := by
  unfold dImg at h
  cases hd : dNum bs with
  | none => rw [hd] at h; cases h
  | some p =>
    obtain ⟨n, r⟩ := p
    rw [hd] at h
    simp only at h
    split at h
    · rename_i hn
      subst hn
      cases hc : cI.dec r with
      | none => rw [hc] at h; cases h
      | some q =>
        obtain ⟨y, r'⟩ := q
        rw [hc] at h
        cases r' with
        | cons a b => cases h
        | nil =>
          simp only [Option.some.injEq] at h
          subst h
          obtain ⟨h1, h2⟩ := cI.bwd _ _ _ hc
          refine ⟨h1, ?_⟩
          rw [(num_dNum hd).2, h2, List.append_nil]
          rfl
    · cases h
theorem img_inj {x y : Img} (hx : cI.ok x) (hy : cI.ok y) (h : imgL x = imgL y) : x = y := by
  have h1 := dImg_img hx
  rw [h, dImg_img hy] at h1
  injection h1 with h1
  exact h1.symm
/-- With more behind it is none. -/
theorem dImg_more {x : Img} (h : cI.ok x) {r : List UInt8} (hr : r ≠ []) : dImg (imgL x ++ r) = none := by
  cases hd : dImg (imgL x ++ r) with
  | none => rfl
  | some y =>
    obtain ⟨hy, e⟩ := img_dImg hd
    exfalso
    unfold imgL at e
    rw [List.append_assoc] at e
    have e := List.append_cancel_left e
    have h1 := cI.fwd x r h
    have h2 := cI.fwd y [] hy
    rw [List.append_nil, ← e, h1] at h2
    injection h2 with h2
    injection h2 with _ h2
    exact hr h2
/-- A beginning of it is none. -/
theorem dImg_cut {x : Img} (h : cI.ok x) {k : Nat} (hk : k < (imgL x).length) : dImg ((imgL x).take k) = none := by
  cases hd : dImg ((imgL x).take k) with
  | none => rfl
  | some y =>
    obtain ⟨hy, e⟩ := img_dImg hd
    exfalso
    have h1 := dImg_more hy (r := (imgL x).drop k) (fun e2 => by
      have := congrArg List.length e2
      rw [List.length_drop, List.length_nil] at this
      omega)
    rw [← e, List.take_append_drop, dImg_img h] at h1
    cases h1
end Go.Proofs.YtdkcnigghcbnpaaGreat
