/- What stands under the walks, part A. -/
import Derived.Test.YtdkcnigghcbnpaaGreatDocA
import Derived.Test.YtdkcnigghcbnpaaGreatTblE
import Derived.Test.YtdkcnigghcbnpaaGreatSesA
/- Scans, plain: pairs that rise, batches of them; a table as bytes, and back. -/
namespace Go.Proofs.YtdkcnigghcbnpaaGreat
set_option linter.unusedVariables false
set_option linter.unusedSimpArgs false
open Go.RowKit Go.MapKept

/-- All pairs, rising. -/
def pairsP (P : List Pr) : List Pr := sortK keyP P
theorem pairsP_perm {P Q : List Pr} (h : P.Perm Q) (hn : (P.map (·.1)).Nodup) : pairsP P = pairsP Q :=
  rises_unique ((sortK_perm P).trans (h.trans (sortK_perm Q).symm)) (sortK_rises hn) (sortK_rises (((h.map _).nodup_iff).1 hn))
theorem pairsP_ord {P : List Pr} (m : TM) (hn : (P.map (·.1)).Nodup) : pairsP (ordP m P) = pairsP P := pairsP_perm (ordP_perm m P) (ordP_nodup hn)
theorem pairsP_len (P : List Pr) : (pairsP P).length = P.length := (sortK_perm P).length_eq
theorem pairsP_rises {P : List Pr} (hn : (P.map (·.1)).Nodup) : Rises keyP (pairsP P) := sortK_rises hn
/-- Those behind a key. -/
def aboveP (after : ByteArray) (first : Bool) (P : List Pr) : List Pr := (pairsP P).filter fun p => first || keyLt after p.1
def batchP (n : Int) (L : List Pr) : List Pr × Bool := (L.take n.toNat, decide (n.toNat < L.length))

/-! ### Bytes -/
def snapL (Q : List Pr) : List UInt8 := Q.flatMap fun p => p.1.data.toList ++ p.2.data.toList
def snapB (Q : List Pr) : ByteArray := ⟨(snapL Q).toArray⟩
def sub (b : ByteArray) (i n : Nat) : ByteArray := ⟨((b.data.toList.drop i).take n).toArray⟩
theorem sub_size (b : ByteArray) (i n : Nat) (h : i + n ≤ b.size) : (sub b i n).size = n := by
  have h' : i + n ≤ b.data.toList.length := by simpa using h
  show ((b.data.toList.drop i).take n).toArray.size = n
  simp only [List.size_toArray, List.length_take, List.length_drop]
  omega
/-- The pairs of bytes: keys of K bytes, values of V. -/
def entsB (K V : Nat) (b : ByteArray) : List Pr := (List.range (b.size / (K + V))).map fun i => (sub b (i * (K + V)) K, sub b (i * (K + V) + K) V)
theorem entsB_len (K V : Nat) (b : ByteArray) : (entsB K V b).length = b.size / (K + V) := by simp [entsB]
theorem byteArray_ext {a b : ByteArray} (h : a.data.toList = b.data.toList) : a = b := by
  cases a; cases b
  congr 1
  exact Array.toList_inj.1 h
theorem snapL_len {K V : Nat} : ∀ {Q : List Pr}, (∀ p ∈ Q, p.1.size = K ∧ p.2.size = V) → (snapL Q).length = Q.length * (K + V)
  | [], _ => by simp [snapL]
  | p :: Q, h => by
    have ih := snapL_len (K := K) (V := V) (Q := Q) (fun x hx => h x (.tail _ hx))
    have h1 := (h p (.head _)).1
    have h2 := (h p (.head _)).2
    have e1 : p.1.data.toList.length = K := by simpa using h1
    have e2 : p.2.data.toList.length = V := by simpa using h2
    unfold snapL at ih ⊢
    rw [List.flatMap_cons, List.length_append, List.length_append, ih, e1, e2, List.length_cons, Nat.succ_mul]
    omega
theorem snapB_size {K V : Nat} {Q : List Pr} (h : ∀ p ∈ Q, p.1.size = K ∧ p.2.size = V) : (snapB Q).size = Q.length * (K + V) := by
  show (snapL Q).toArray.size = _
  rw [List.size_toArray, snapL_len h]
theorem snapL_append (A B : List Pr) : snapL (A ++ B) = snapL A ++ snapL B := by simp [snapL]
theorem snapL_at {K V : Nat} {Q : List Pr} (h : ∀ p ∈ Q, p.1.size = K ∧ p.2.size = V) {i : Nat} {p : Pr} (hp : Q[i]? = some p) : ((snapL Q).drop (i * (K + V))).take K = p.1.data.toList ∧ ((snapL Q).drop (i * (K + V) + K)).take V = p.2.data.toList := by
  have hi := (List.getElem?_eq_some_iff.1 hp).1
  have hsp : Q = Q.take i ++ p :: Q.drop (i + 1) := by
    have e : Q[i] = p := (List.getElem?_eq_some_iff.1 hp).2
    rw [← e, List.getElem_cons_drop, List.take_append_drop]
  have hl : (snapL (Q.take i)).length = i * (K + V) := by
    rw [snapL_len (fun x hx => h x (List.mem_of_mem_take hx)), List.length_take, Nat.min_eq_left (by omega)]
  have hpm := h p (List.mem_of_getElem? hp)
  have e1 : p.1.data.toList.length = K := by simpa using hpm.1
  have e2 : p.2.data.toList.length = V := by simpa using hpm.2
  have hs : snapL Q = snapL (Q.take i) ++ (p.1.data.toList ++ (p.2.data.toList ++ snapL (Q.drop (i + 1)))) := by
    conv => lhs; rw [hsp]
    rw [snapL_append]
    congr 1
    show p.1.data.toList ++ p.2.data.toList ++ snapL (Q.drop (i + 1)) = _
    rw [List.append_assoc]
  rw [hs]
  constructor
  · rw [List.drop_append_of_le_length (by omega), ← hl, List.drop_length, List.nil_append, ← e1, List.take_left]
  · rw [← List.drop_drop, List.drop_append_of_le_length (by omega), ← hl, List.drop_length, List.nil_append, ← e1, List.drop_left, ← e2, List.take_left]
/-- What is written is read. -/
theorem ents_snap {K V : Nat} {Q : List Pr} (h : ∀ p ∈ Q, p.1.size = K ∧ p.2.size = V) (h0 : 0 < K + V) : entsB K V (snapB Q) = Q := by
  have hz := snapB_size h
  refine List.ext_getElem? fun i => ?_
  unfold entsB
  rw [List.getElem?_map, hz, Nat.mul_div_cancel _ h0]
  by_cases hi : i < Q.length
  · rw [List.getElem?_range hi]
    obtain ⟨p, hp⟩ : ∃ p, Q[i]? = some p := ⟨_, List.getElem?_eq_getElem hi⟩
    obtain ⟨h1, h2⟩ := snapL_at h hp
    rw [hp]
    show some (sub (snapB Q) (i * (K + V)) K, sub (snapB Q) (i * (K + V) + K) V) = some p
    have e1 : sub (snapB Q) (i * (K + V)) K = p.1 := byteArray_ext (by show ((((snapL Q).toArray.toList.drop _).take _).toArray.toList) = _; simpa using h1)
    have e2 : sub (snapB Q) (i * (K + V) + K) V = p.2 := byteArray_ext (by show ((((snapL Q).toArray.toList.drop _).take _).toArray.toList) = _; simpa using h2)
    rw [e1, e2]
  · rw [List.getElem?_eq_none (by simpa using hi), List.getElem?_eq_none (by omega)]
    rfl
theorem ents_sizes {K V : Nat} {b : ByteArray} (h0 : 0 < K + V) : ∀ p ∈ entsB K V b, p.1.size = K ∧ p.2.size = V := by
  intro p hp
  obtain ⟨i, hi, rfl⟩ := List.mem_map.1 hp
  rw [List.mem_range] at hi
  have h1 : (i + 1) * (K + V) ≤ b.size := by
    have h2 := Nat.div_mul_le_self b.size (K + V)
    have h3 : (i + 1) * (K + V) ≤ b.size / (K + V) * (K + V) := Nat.mul_le_mul_right _ hi
    omega
  rw [Nat.succ_mul] at h1
  exact ⟨sub_size _ _ _ (by omega), sub_size _ _ _ (by omega)⟩
theorem snap_ents {K V : Nat} {b : ByteArray} (h0 : 0 < K + V) (hb : b.size % (K + V) = 0) : snapB (entsB K V b) = b := by
  have key : ∀ n, n * (K + V) ≤ b.size → snapL ((List.range n).map fun i => (sub b (i * (K + V)) K, sub b (i * (K + V) + K) V)) = b.data.toList.take (n * (K + V)) := by
    intro n
    induction n with
    | zero => intro _; simp [snapL]
    | succ n ih =>
      intro hn
      rw [Nat.succ_mul] at hn
      rw [List.range_succ, List.map_append, snapL_append, ih (by omega), Nat.succ_mul]
      show b.data.toList.take (n * (K + V)) ++ ([(sub b (n * (K + V)) K, sub b (n * (K + V) + K) V)].flatMap fun p => p.1.data.toList ++ p.2.data.toList) = _
      have e : ([(sub b (n * (K + V)) K, sub b (n * (K + V) + K) V)] : List Pr).flatMap (fun p => p.1.data.toList ++ p.2.data.toList) = (b.data.toList.drop (n * (K + V))).take K ++ (b.data.toList.drop (n * (K + V) + K)).take V := by
        simp [sub]
      rw [e, ← List.drop_drop, ← List.take_add, ← List.take_add]
  have hd := Nat.div_add_mod b.size (K + V)
  rw [hb, Nat.add_zero, Nat.mul_comm] at hd
  refine byteArray_ext ?_
  show (snapL (entsB K V b)).toArray.toList = _
  unfold entsB
  rw [key _ (by omega), hd]
  have : b.data.toList.length = b.size := by simp
  rw [← this, List.take_length]
theorem snapB_inj {K V : Nat} {P Q : List Pr} (hP : ∀ p ∈ P, p.1.size = K ∧ p.2.size = V) (hQ : ∀ p ∈ Q, p.1.size = K ∧ p.2.size = V) (h0 : 0 < K + V) (h : snapB P = snapB Q) : P = Q := by
  rw [← ents_snap hP h0, ← ents_snap hQ h0, h]
end Go.Proofs.YtdkcnigghcbnpaaGreat

/- Restoring, plain: when bytes are a table. -/
namespace Go.Proofs.YtdkcnigghcbnpaaGreat
set_option linter.unusedVariables false
set_option linter.unusedSimpArgs false
open Go.RowKit Go.MapKept

/-- Pairs that are a table's, in the document's order. -/
def resOK (m : TM) (E : List Pr) : Prop :=
  (m.kd = 1 → E.map (·.1) = (List.range m.mx.toNat).map numK) ∧ (m.kd = 2 → Rises keyP E) ∧ (m.kd = 3 → (E.map (·.1)).Nodup)
/-- One after the other is put. -/
def runP (m : TM) : List Pr → List Pr → Option (List Pr)
  | P, [] => some P
  | P, p :: E => if codeP m p.1 p.2 0 P = 0 then runP m (updP m p.1 p.2 0 P) E else none
theorem runP_snoc (m : TM) (p : Pr) : ∀ (E P : List Pr), runP m P (E ++ [p]) = (runP m P E).bind fun R => if codeP m p.1 p.2 0 R = 0 then some (updP m p.1 p.2 0 R) else none
  | [], P => by
    show (if codeP m p.1 p.2 0 P = 0 then runP m (updP m p.1 p.2 0 P) [] else none) = _
    rfl
  | e :: E, P => by
    show (if codeP m e.1 e.2 0 P = 0 then runP m (updP m e.1 e.2 0 P) (E ++ [p]) else none) = (if codeP m e.1 e.2 0 P = 0 then runP m (updP m e.1 e.2 0 P) E else none).bind _
    split
    · exact runP_snoc m p E _
    · rfl

section
variable {m : TM} {E : List Pr}
theorem lookP_not {P : List Pr} {k : ByteArray} (h : k ∉ P.map (·.1)) : lookP k P = none :=
  lookP_none fun p hp e => h (by rw [← e]; exact List.mem_map_of_mem hp)
/-- New keys, with room. -/
theorem run_new (hkd : m.kd = 2 ∨ m.kd = 3) (hs : ∀ p ∈ E, (p.1.size : Int) = m.ks ∧ (p.2.size : Int) = m.vs) : ∀ {P : List Pr}, ((P ++ E).map (·.1)).Nodup → ((P ++ E).length : Int) ≤ m.mx → runP m P E = some (P ++ E) := by
  induction E with
  | nil => intro P _ _; simp [runP]
  | cons p E ih =>
    intro P hn hl
    have hnot : p.1 ∉ P.map (·.1) := by
      rw [List.map_append, List.map_cons, List.nodup_append] at hn
      exact fun hm => hn.2.2 p.1 hm p.1 (by simp) rfl
    have hlk := lookP_not hnot
    have hsz := hs p (.head _)
    have hlen : (P.length : Int) + 1 + E.length ≤ m.mx := by simp at hl; omega
    have hc : codeP m p.1 p.2 0 P = 0 := by
      unfold codeP addCP
      rw [if_neg (by omega), if_neg (by rw [hlk]; simp), if_neg (by decide), if_neg (by omega), if_neg (by omega)]
    have hu : updP m p.1 p.2 0 P = P ++ [p] := by
      unfold updP addP
      rw [if_pos hc, if_neg (by rw [hlk]; simp), if_pos (by omega)]
    show (if codeP m p.1 p.2 0 P = 0 then runP m (updP m p.1 p.2 0 P) E else none) = _
    rw [if_pos hc, hu, ih (fun q hq => hs q (.tail _ hq)) (by rw [List.append_assoc]; exact hn) (by rw [List.append_assoc]; exact hl), List.append_assoc]
    rfl
theorem setP_mid {A B : List Pr} {k d v : ByteArray} (hn : ((A ++ (k, d) :: B).map (·.1)).Nodup) : setP k v (A ++ (k, d) :: B) = A ++ (k, v) :: B := by
  have e : ∀ L : List Pr, (∀ p ∈ L, p.1 ≠ k) → setP k v L = L := by
    intro L hL
    unfold setP
    conv => rhs; rw [← List.map_id L]
    refine List.map_congr_left fun p hp => ?_
    rw [if_neg (hL p hp)]
    rfl
  rw [List.map_append, List.map_cons] at hn
  have h2 := List.nodup_append.1 hn
  have h3 := List.nodup_cons.1 h2.2.1
  unfold setP
  rw [List.map_append, List.map_cons, if_pos rfl]
  have a1 := e A (fun p hp he => h2.2.2 p.1 (List.mem_map_of_mem hp) k (by simp) he)
  have a2 := e B (fun p hp he => h3.1 (by have := List.mem_map_of_mem (f := Prod.fst) hp; rw [he] at this; exact this))
  unfold setP at a1 a2
  rw [a1, a2]
/-- All entries of an array, in order. -/
theorem run_arr (hkd : m.kd = 1) (hs : ∀ p ∈ E, (p.1.size : Int) = m.ks ∧ (p.2.size : Int) = m.vs) : ∀ {P R : List Pr}, R.map (·.1) = E.map (·.1) → ((P ++ R).map (·.1)).Nodup → runP m (P ++ R) E = some (P ++ E) := by
  induction E with
  | nil =>
    intro P R hR _
    cases R with
    | nil => simp [runP]
    | cons r R => simp at hR
  | cons p E ih =>
    intro P R hR hn
    cases R with
    | nil => simp at hR
    | cons r R =>
      simp only [List.map_cons, List.cons.injEq] at hR
      obtain ⟨k, d⟩ := r
      obtain ⟨k', v⟩ := p
      obtain ⟨hk, hR⟩ := hR
      have hk : k = k' := hk
      subst hk
      have hsz := hs (k, v) (.head _)
      have hlk : lookP k (P ++ (k, d) :: R) = some d := (lookP_some_iff hn).2 (by simp)
      have hc : codeP m k v 0 (P ++ (k, d) :: R) = 0 := by
        unfold codeP
        rw [if_neg (by simp only at hsz; omega), if_pos (by rw [hlk]; rfl), if_neg (by decide)]
      have hu : updP m k v 0 (P ++ (k, d) :: R) = (P ++ [(k, v)]) ++ R := by
        unfold updP useP
        rw [if_pos hc, if_pos (by rw [hlk]; rfl), if_neg (by omega), setP_mid hn, List.append_assoc]
        rfl
      show (if codeP m k v 0 (P ++ (k, d) :: R) = 0 then runP m (updP m k v 0 (P ++ (k, d) :: R)) E else none) = _
      rw [if_pos hc, hu, ih (fun q hq => hs q (.tail _ hq)) hR (by
        rw [List.append_assoc]
        have e : (P ++ ([(k, v)] ++ R)).map (·.1) = (P ++ (k, d) :: R).map (·.1) := by simp
        rw [e]
        exact hn), List.append_assoc]
      rfl
theorem nodup_numK {n : Nat} (h : n ≤ 1000000) : ((List.range n).map numK).Nodup := numK_nodup n h
/-- Pairs that may be are read, and are what is then there. -/
theorem run_ok (hr : m.right = true) (hs : ∀ p ∈ E, (p.1.size : Int) = m.ks ∧ (p.2.size : Int) = m.vs) (hl : (E.length : Int) ≤ m.mx) (h : resOK m E) : ∃ P, runP m (newP m) E = some P ∧ ordP m P = E := by
  have h3 := (rightB_iff _ _ _ _ _).1 hr
  rcases (by omega : m.kd = 1 ∨ m.kd = 2 ∨ m.kd = 3) with hk | hk | hk
  · have hk1 := h.1 hk
    have hnew : (newP m).map (·.1) = E.map (·.1) := by
      unfold newP
      rw [if_pos hk, hk1, List.map_map]
      rfl
    have hn : ((newP m).map (·.1)).Nodup := by
      rw [hnew, hk1]
      exact numK_nodup _ (by omega)
    refine ⟨E, by simpa using run_arr (P := []) (R := newP m) hk hs hnew hn, ?_⟩
    unfold ordP
    rw [if_neg (by omega)]
  · have hrs := h.2.1 hk
    have hnew : newP m = [] := by unfold newP; rw [if_neg (by omega)]
    refine ⟨E, by rw [hnew]; simpa using run_new (P := []) (.inl hk) hs (rises_nodup hrs) hl, ?_⟩
    unfold ordP
    rw [if_pos hk]
    exact rises_unique (sortK_perm E) (sortK_rises (rises_nodup hrs)) hrs
  · have hnd := h.2.2 hk
    have hnew : newP m = [] := by unfold newP; rw [if_neg (by omega)]
    refine ⟨E, by rw [hnew]; simpa using run_new (P := []) (.inr hk) hs hnd hl, ?_⟩
    unfold ordP
    rw [if_neg (by omega)]
/-- What a table has may be. -/
theorem res_of {P : List Pr} (hn : (P.map (·.1)).Nodup) (ha : m.kd = 1 → P.map (·.1) = (List.range m.mx.toNat).map numK) (h : ordP m P = E) : resOK m E := by
  subst h
  refine ⟨fun h1 => ?_, fun h2 => ordP_rises hn h2, fun h3 => ordP_nodup hn⟩
  have e : ordP m P = P := by unfold ordP; rw [if_neg (by omega)]
  rw [e]
  exact ha h1
/-- One by one, on the document's side: what is there behind i of them. -/
def rrunQ (m : TM) (E : List Pr) (i : Nat) : List Pr := if m.kd = 1 then E.take i ++ (newP m).drop i else E.take i
theorem rrun_zero : rrunQ m E 0 = newP m := by
  unfold rrunQ
  split
  · simp
  · rename_i h
    unfold newP
    rw [if_neg h]
    simp
theorem rrun_all (h : m.kd = 1 → E.length = m.mx.toNat) : rrunQ m E E.length = E := by
  unfold rrunQ
  split
  · rename_i h1
    have : (newP m).length = E.length := by unfold newP; rw [if_pos h1, h h1]; simp
    rw [List.take_length, ← this, List.drop_length, List.append_nil]
  · exact List.take_length
theorem take_snoc' {i : Nat} {p : Pr} (hp : E[i]? = some p) : E.take (i + 1) = E.take i ++ [p] := by
  have hi := (List.getElem?_eq_some_iff.1 hp)
  obtain ⟨hl, e⟩ := hi
  rw [List.take_succ_eq_append_getElem hl, e]
/-- An array's entry. -/
theorem rrun_arr (hr : m.right = true) (hk : m.kd = 1) (hs : ∀ p ∈ E, (p.1.size : Int) = m.ks ∧ (p.2.size : Int) = m.vs) (hl : E.length = m.mx.toNat) {i : Nat} {p : Pr} (hp : E[i]? = some p) (hpre : (E.take i).map (·.1) = (List.range i).map numK) (hpk : p.1 = numK i) :
    codeP m p.1 p.2 2 (rrunQ m E i) = 0 ∧ rupdP m p.1 p.2 2 (rrunQ m E i) = rrunQ m E (i + 1) := by
  have h3 := (rightB_iff _ _ _ _ _).1 hr
  have hi := (List.getElem?_eq_some_iff.1 hp).1
  obtain ⟨k, v⟩ := p
  have hsz := hs (k, v) (List.mem_of_getElem? hp)
  simp only at hsz hpk
  have hnew : (newP m).drop i = (k, zeroB m.vs.toNat) :: (newP m).drop (i + 1) := by
    have hln : (newP m).length = m.mx.toNat := by unfold newP; rw [if_pos hk]; simp
    have e : (newP m)[i]'(by omega) = (k, zeroB m.vs.toNat) := by
      unfold newP
      simp [if_pos hk, hpk]
    rw [← e, List.getElem_cons_drop]
  have hR : rrunQ m E i = E.take i ++ (k, zeroB m.vs.toNat) :: (newP m).drop (i + 1) := by
    unfold rrunQ
    rw [if_pos hk, hnew]
  have hkeys : (rrunQ m E i).map (·.1) = (List.range m.mx.toNat).map numK := by
    unfold rrunQ
    rw [if_pos hk, List.map_append, hpre]
    unfold newP
    rw [if_pos hk, List.map_drop, List.map_map]
    show (List.range i).map numK ++ ((List.range m.mx.toNat).map numK).drop i = _
    rw [← List.map_drop, ← List.map_append]
    congr 1
    refine List.ext_getElem? fun j => ?_
    by_cases hj : j < i
    · rw [List.getElem?_append_left (by simpa using hj), List.getElem?_range hj, List.getElem?_range (by omega)]
    · rw [List.getElem?_append_right (by simpa using hj), List.getElem?_drop, List.length_range, show i + (j - i) = j by omega]
  have hn : ((rrunQ m E i).map (·.1)).Nodup := by
    rw [hkeys]
    exact numK_nodup _ (by omega)
  rw [hR] at hn
  have hlk : lookP k (E.take i ++ (k, zeroB m.vs.toNat) :: (newP m).drop (i + 1)) = some (zeroB m.vs.toNat) := (lookP_some_iff hn).2 (by simp)
  have hc : codeP m k v 2 (rrunQ m E i) = 0 := by
    unfold codeP
    rw [hR, if_neg (by omega), if_pos (by rw [hlk]; rfl), if_neg (by decide)]
  refine ⟨hc, ?_⟩
  show rupdP m k v 2 (rrunQ m E i) = _
  unfold rupdP
  rw [if_pos hc, hR, if_pos (by rw [hlk]; rfl)]
  unfold useP
  rw [if_neg (by omega), setP_mid hn]
  unfold rrunQ
  rw [if_pos hk, take_snoc' hp, List.append_assoc]
  rfl
/-- A new one. -/
theorem rrun_new (hr : m.right = true) (hk : m.kd ≠ 1) (hs : ∀ p ∈ E, (p.1.size : Int) = m.ks ∧ (p.2.size : Int) = m.vs) (hl : (E.length : Int) ≤ m.mx) {i : Nat} {p : Pr} (hp : E[i]? = some p) (hnot : p.1 ∉ (E.take i).map (·.1)) (hri : m.kd = 2 → ∀ q ∈ E.take i, keyLt q.1 p.1 = true) :
    codeP m p.1 p.2 1 (rrunQ m E i) = 0 ∧ rupdP m p.1 p.2 1 (rrunQ m E i) = rrunQ m E (i + 1) := by
  have h3 := (rightB_iff _ _ _ _ _).1 hr
  have hi := (List.getElem?_eq_some_iff.1 hp).1
  have hsz := hs p (List.mem_of_getElem? hp)
  have hR : rrunQ m E i = E.take i := by unfold rrunQ; rw [if_neg hk]
  have hlen : (E.take i).length = i := by rw [List.length_take, Nat.min_eq_left (by omega)]
  have hlk := lookP_not hnot
  have hc : codeP m p.1 p.2 1 (rrunQ m E i) = 0 := by
    unfold codeP addCP
    rw [hR, if_neg (by omega), if_neg (by rw [hlk]; simp), if_neg (by decide), if_neg hk, if_neg (by rw [hlen]; omega)]
  refine ⟨hc, ?_⟩
  unfold rupdP
  rw [if_pos hc, hR, if_neg (by rw [hlk]; simp)]
  have e : rrunQ m E (i + 1) = E.take i ++ [p] := by unfold rrunQ; rw [if_neg hk, take_snoc' hp]
  rw [e]
  unfold raddP
  by_cases h2 : m.kd = 2
  · rw [if_pos h2]
    have := insK_split (key := keyP) (y := (p.1, p.2)) (A := E.take i) (B := []) (hri h2) (fun x hx => by cases hx)
    simpa using this
  · rw [if_neg h2]
    unfold addP
    rw [if_pos (by rw [hlen]; omega)]
/-- One that is there. -/
theorem rrun_twice (hr : m.right = true) (hk : m.kd = 3) (hs : ∀ p ∈ E, (p.1.size : Int) = m.ks ∧ (p.2.size : Int) = m.vs) {i : Nat} {p : Pr} (hp : E[i]? = some p) (hm : p.1 ∈ (E.take i).map (·.1)) : codeP m p.1 p.2 1 (rrunQ m E i) = 4 ∧ ¬ resOK m E := by
  have hsz := hs p (List.mem_of_getElem? hp)
  have hR : rrunQ m E i = E.take i := by unfold rrunQ; rw [if_neg (by omega)]
  constructor
  · have hlk : (lookP p.1 (E.take i)).isSome = true := by
      cases h : lookP p.1 (E.take i) with
      | some d => rfl
      | none =>
        obtain ⟨q, hq, e⟩ := List.mem_map.1 hm
        unfold lookP at h
        rw [Option.map_eq_none_iff, List.find?_eq_none] at h
        exact (h q hq (by simpa using e)).elim
    unfold codeP
    rw [hR, if_neg (by omega), if_pos hlk, if_pos rfl]
  · intro hok
    have hn := hok.2.2 hk
    have hi := (List.getElem?_eq_some_iff.1 hp)
    obtain ⟨hl, e⟩ := hi
    have hsp : E = E.take i ++ p :: E.drop (i + 1) := by rw [← e, List.getElem_cons_drop, List.take_append_drop]
    rw [hsp, List.map_append, List.map_cons, List.nodup_append] at hn
    exact hn.2.2 p.1 hm p.1 (by simp) rfl
end
end Go.Proofs.YtdkcnigghcbnpaaGreat

/- slices.SortFunc of pairs: they rise by their keys. -/
namespace Go.Proofs.YtdkcnigghcbnpaaGreat
set_option linter.unusedVariables false
set_option linter.unusedSimpArgs false
open Go.RowKit Go.MapKept Go.Sort

def encP (p : Pr) : List Value := [.string p.1, .string p.2]
def prV (P : List Pr) : List Value := P.flatMap encP
theorem prV_len (P : List Pr) : (prV P).length = P.length * 2 := by
  unfold prV
  induction P with
  | nil => rfl
  | cons p P ih => rw [List.flatMap_cons, List.length_append, ih, List.length_cons]; simp [encP]; omega
theorem prV_append (P Q : List Pr) : prV (P ++ Q) = prV P ++ prV Q := List.flatMap_append
theorem prV_at : ∀ {P : List Pr} {i : Nat} {p : Pr}, P[i]? = some p → (prV P)[i * 2]? = some (.string p.1) ∧ (prV P)[i * 2 + 1]? = some (.string p.2)
  | [], _, _, h => by simp at h
  | q :: P, 0, p, h => by
    cases Option.some.inj h
    exact ⟨rfl, rfl⟩
  | q :: P, i + 1, p, h => by
    have ih := prV_at (P := P) (i := i) (p := p) (by simpa using h)
    have e : prV (q :: P) = .string q.1 :: .string q.2 :: prV P := rfl
    rw [e, show (i + 1) * 2 = i * 2 + 1 + 1 by omega]
    exact ⟨by simpa using ih.1, by simpa using ih.2⟩
theorem flatP [Inhabited Pr] {α : Type} [Inhabited α] (f : α → Pr) (d : List α) : (flatK (fun x => encP (f x)) 2 d.toArray).toList = prV (d.map f) := by
  refine List.ext_getElem? fun t => ?_
  have hl : (prV (d.map f)).length = d.length * 2 := by rw [prV_len, List.length_map]
  by_cases ht : t < d.length * 2
  · have h1 : (flatK (fun x => encP (f x)) 2 d.toArray)[t]! = _ := get_flatK _ _ _ _ (by simpa using ht)
    have hi : t / 2 < d.length := by omega
    have e1 : d.toArray[t / 2]! = d[t / 2] := by rw [getElem!_pos _ _ (by simpa using hi)]; simp
    rw [e1] at h1
    rw [getElem!_pos _ _ (by simpa using ht)] at h1
    rw [Array.getElem?_toList, Array.getElem?_eq_getElem (by simpa using ht), h1]
    have hp : (d.map f)[t / 2]? = some (f d[t / 2]) := by rw [List.getElem?_map, List.getElem?_eq_getElem hi]; rfl
    obtain ⟨h2, h3⟩ := prV_at hp
    rcases Nat.mod_two_eq_zero_or_one t with h4 | h4
    · have e2 : t / 2 * 2 = t := by omega
      rw [e2] at h2
      rw [h4, h2]
      rfl
    · have e2 : t / 2 * 2 + 1 = t := by omega
      rw [e2] at h3
      rw [h4, h3]
      rfl
  · rw [List.getElem?_eq_none (by simpa using ht), List.getElem?_eq_none (by omega)]
/-- A row laid anew, whatever its elements' size. -/
theorem own_putRow {W : World} {e g n c k : Nat} {vals : List Value} (h : W.ownsRow 0 e k (.slice (some ⟨g, 0, none⟩) n c) n vals) (m : Nat) (F : Array Value) (hF : F.size = n * k) (os : Array Obj) :
    (grow (putRow id (Sort.ahead W m) g 0 F) os).ownsRow 0 e k (.slice (some ⟨g, 0, none⟩) n c) n F.toList := by
  rcases h.2 with ⟨h1, _⟩ | ⟨g', cap, cur, h1, hb, hg, hn, hc, hs, ht⟩
  · cases h1
  · cases h1
    have hlt := (Array.getElem?_eq_some_iff.1 hg).1
    have hnk : n * k ≤ c * k := Nat.mul_le_mul_right k hn
    refine ⟨by simp [hF], .inr ⟨g, c, putCells id 0 F cur, rfl, hb, ?_, hn, hc, by simp [putCells, hs], ?_⟩⟩
    · rw [heap_grow_old _ _ (by simpa using hlt)]
      show (W.heap.modify g _)[g]? = _
      rw [Array.getElem?_modify, if_pos rfl]
      show Option.map _ (W.heap[g]?) = _
      rw [hg]
      rfl
    · apply List.ext_getElem?
      intro i
      by_cases hi : i < n * k
      · have hi2 : i < cur.size := by omega
        rw [List.getElem?_take_of_lt (by omega)]
        simp only [putCells, Array.getElem?_toList, Array.getElem?_mapIdx, Array.getElem?_eq_getElem hi2, Option.map_some]
        rw [if_pos ⟨by omega, by omega⟩, Array.getElem?_eq_getElem (by omega : i < F.size), Nat.sub_zero, getElem!_pos F i (by omega)]
        rfl
      · rw [List.getElem?_eq_none (by simp; omega), List.getElem?_eq_none (by simp; omega)]
theorem kept_putRow (W : World) (g m : Nat) (F : Array Value) (os : Array Obj) : Kept (fun b => b = g) W (grow (putRow id (Sort.ahead W m) g 0 F) os) := by
  refine ⟨rfl, rfl, rfl, by simp, fun k hk hn => ?_⟩
  rw [heap_grow_old _ _ (by simpa using hk)]
  show (W.heap.modify g _)[k]? = _
  rw [Array.getElem?_modify, if_neg (fun e => hn e.symm)]

set_option maxRecDepth 100000 in
/-- The closure: two pairs' keys, compared. -/
theorem cmpP_any (W : World) (x y : Pr) :
    Calls Tryz.prog 105 #[.agg (encP x).toArray, .agg (encP y).toArray] W fun e w' => e = .returned (.int .i64 (keyC x.1 y.1)) ∧ ∃ q os, w' = grow (W.drewN q) os := by
  have hc := fun w => Any.strings_Compare Tryz.lays106 x.1 y.1 w
  show Calls Tryz.prog 105 #[.agg #[.string x.1, .string x.2], .agg #[.string y.1, .string y.2]] W _
  go_enter Tryz.func105, Tryz.ntmps105
  go_wp2_with (go_at_call 106; refine (hc _).mono ?_; rintro e w' ⟨rfl, rfl⟩)
  go_ret
  refine ⟨rfl, 0, #[.cells #[.string x.1, .string x.2] 65, .cells #[.string y.1, .string y.2] 65], ?_⟩
  rw [alloc_eq_grow, alloc_eq_grow, grow_grow]
  rfl
theorem cmpP_enters (args : Array Value) (w : World) : (callFunc 105 args).run Tryz.prog w = .ok (.enter 105 args) w := by
  exact enters_body Tryz.func105 (by kernel_rfl) rfl args w
theorem sortP_any (P : List Pr) (W : World) (hn : (P.map (·.1)).Nodup) (sv : Value) (hown : W.ownsRow 0 65 2 sv P.length (prV P)) (hN : P.length ≤ 1000000) :
    Calls Tryz.prog 104 #[sv, .func (.func 105) #[] #[]] W fun e w' => e = .returned (.tuple #[]) ∧ w'.ownsRow 0 65 2 sv P.length (prV (pairsP P)) ∧ Kept (fun b => sv.ownBlock = some b) W w' := by
  obtain ⟨a, c, rfl, hg, -, hnc⟩ := own_form hown
  by_cases h0 : P = []
  · subst h0
    refine (AnyF.slices_SortFunc_none Tryz.sortP a c _ W).mono ?_
    rintro e w' ⟨rfl, rfl⟩
    exact ⟨rfl, hown, .refl _ _⟩
  · have hpos : 0 < P.length := List.length_pos_iff.2 h0
    obtain ⟨g, rfl⟩ := hg hpos
    haveI : Inhabited { x // x ∈ P } := ⟨⟨P[0], List.getElem_mem _⟩⟩
    haveI : Inhabited Pr := ⟨P[0]⟩
    have hrow := own_row hown
    have hlt := hrow.lt
    have hdl : P.attach.toArray.size = P.length := by simp
    have hO : SWO (ltOf fun x y : { x // x ∈ P } => keyC x.1.1 y.1.1) :=
      ⟨fun x => keyLt_irrefl _, fun x y z h1 h2 => keyLt_trans h1 h2, fun x y z h1 h2 => keyLt_ntrans h1 h2⟩
    have hT : ∀ x y : { x // x ∈ P }, (ltOf fun x y : { x // x ∈ P } => keyC x.1.1 y.1.1) x y = false → (ltOf fun x y : { x // x ∈ P } => keyC x.1.1 y.1.1) y x = false → x = y := by
      intro x y h1 h2
      have he := keyLt_total h1 h2
      apply Subtype.ext
      have h3 := (lookP_some_iff hn).2 (show (x.1.1, x.1.2) ∈ P from x.2)
      have h4 := (lookP_some_iff hn).2 (show (y.1.1, y.1.2) ∈ P from y.2)
      rw [he, h4] at h3
      exact Prod.ext he (Option.some.inj h3).symm
    have hfl : (flatK (fun x : { x // x ∈ P } => encP x.1) 2 P.attach.toArray).toList = prV P := by
      rw [flatP, List.attach_map_subtype_val]
    have hH : HoldsK (fun x : { x // x ∈ P } => encP x.1) 2 W g 0 P.attach.toArray := by
      intro j hj
      refine ⟨?_, hrow.frozen _⟩
      rw [Nat.zero_add]
      show W.cell? _ = some ((flatK (fun x : { x // x ∈ P } => encP x.1) 2 P.attach.toArray)[j]!)
      refine own_cell hown ?_
      rw [← hfl, Array.getElem?_toList, Array.getElem?_eq_getElem hj, getElem!_pos (flatK (fun x : { x // x ∈ P } => encP x.1) 2 P.attach.toArray) j hj]
    have hcmp : CmpLays Tryz.prog 105 #[] (fun x : { x // x ∈ P } => encP x.1) 2 (fun x y => keyC x.1.1 y.1.1) g 0 P.attach.toArray.size W := fun m os dk hs x y => cmpP_any _ x.1 y.1
    have H := AnyQ.slices_SortFunc_total Tryz.sortP 2 (fun w => Tryz.isAgg65 w) (fun w => Tryz.sizeOf65 w) (fun x : { x // x ∈ P } => encP x.1) (fun x => rfl) (fun x v hv => by rcases List.mem_cons.1 hv with rfl | hv; rfl; rcases List.mem_cons.1 hv with rfl | hv; rfl; cases hv) (fun x y => keyC x.1.1 y.1.1) hO 105 #[] g 0 c P.attach.toArray W cmpP_enters hcmp hH hlt (by rw [hdl]; omega) hT
    rw [hdl] at H
    refine H.mono ?_
    rintro e w' ⟨rfl, n, os, rfl⟩
    obtain ⟨L, hL⟩ : ∃ L, L = P.attach.toArray.toList.mergeSort (fun x y => !(ltOf fun x y : { x // x ∈ P } => keyC x.1.1 y.1.1) y x) := ⟨_, rfl⟩
    rw [← hL]
    have hLp : L.Perm P.attach := by rw [hL]; simpa using List.mergeSort_perm _ _
    have hLv : L.map (·.1) = pairsP P := by
      have hp1 : (L.map (·.1)).Perm P := by
        have := hLp.map (·.1)
        rwa [List.attach_map_subtype_val] at this
      refine rises_unique (hp1.trans (sortK_perm P).symm) ?_ (sortK_rises hn)
      unfold Rises
      rw [List.pairwise_map]
      have hs : L.Pairwise (fun x y => (!(ltOf fun x y : { x // x ∈ P } => keyC x.1.1 y.1.1) y x) = true) := by
        rw [hL]
        refine List.pairwise_mergeSort (fun x y z h1 h2 => ?_) (fun x y => ?_) _
        · simp only [Bool.not_eq_true'] at h1 h2 ⊢
          exact keyLt_ntrans h2 h1
        · simp only [Bool.or_eq_true, Bool.not_eq_true']
          cases h : (ltOf fun x y : { x // x ∈ P } => keyC x.1.1 y.1.1) y x with
          | false => exact .inl rfl
          | true => exact .inr (keyLt_asymm h)
      have hnd : L.Pairwise (fun x y => x.1.1 ≠ y.1.1) := by
        have h1 : ((L.map (·.1)).map (·.1)).Nodup := ((hp1.map (·.1)).nodup_iff).2 hn
        unfold List.Nodup at h1
        rw [List.pairwise_map, List.pairwise_map] at h1
        exact h1
      refine hs.imp₂ (fun x y h1 h2 => ?_) hnd
      simp only [Bool.not_eq_true'] at h1
      cases h3 : keyLt x.1.1 y.1.1 with
      | true => rfl
      | false => exact (h2 (keyLt_total h3 h1)).elim
    have h1 := own_putRow hown n (flatK (fun x : { x // x ∈ P } => encP x.1) 2 L.toArray) (by have := hLp.length_eq; simp at this; simp [this]) os
    have h2 : (flatK (fun x : { x // x ∈ P } => encP x.1) 2 L.toArray).toList = prV (pairsP P) := by rw [flatP, hLv]
    rw [h2] at h1
    exact ⟨rfl, h1, (kept_putRow W g n _ os).mono fun b _ e => by rw [e]; rfl⟩
end Go.Proofs.YtdkcnigghcbnpaaGreat

/- scan.pairs: a table's pairs, rising. -/
namespace Go.Proofs.YtdkcnigghcbnpaaGreat
set_option linter.unusedVariables false
set_option linter.unusedSimpArgs false
open Go.RowKit Go.MapKept

theorem entP : Elem Tryz.prog 47 65 (.agg #[.string ⟨#[]⟩, .string ⟨#[]⟩]) 2 32 := ⟨Tryz.underlying47, by kernel_rfl, rfl, by omega⟩
theorem pairs_enters (args : Array Value) (w : World) : (callFunc 81 args).run Tryz.prog w = .ok (.enter 81 args) w := by
  exact enters_body Tryz.func81 (by kernel_rfl) rfl args w

set_option maxRecDepth 100000 in
set_option maxHeartbeats 2000000 in
theorem pairs_any {bt : Nat} {m : TM} {iv : Value} {E : List En} {F : Nat → Prop} {W : World} (hT : Tb W bt m iv E F) :
    Calls Tryz.prog 81 #[.pointer (some ⟨bt, 0, none⟩)] W fun e w' => ∃ sv, e = .returned sv ∧ w'.ownsRow 0 65 2 sv E.length (prV (pairsP (kvs E))) ∧ (∀ b, sv.ownBlock = some b → W.heap.size ≤ b) ∧ Kept (fun _ => False) W w' := by
  refine callsIn_WR (ro := none) (n := 0).1 (callsIn_of_wp_marks Tryz.func81 rfl trivial ?_ rfl)
  simp only [Tryz.ntmps81, List.size_toArray, List.length_cons, List.length_nil, Nat.reduceAdd, Nat.reduceSub, Array.replicate_succ, Array.replicate_zero, List.push_toArray, List.append_toArray, List.nil_append, List.cons_append]
  have HT := Lib.hid hT
  clear hT
  gi_wp2_with fail
  obtain ⟨W1, hW1⟩ : ∃ W1, W1 = W.alloc (.cells #[.slice none 0 0] 47) := ⟨_, rfl⟩
  have k1 : Kept (fun _ => False) W W1 := by rw [hW1]; exact Kept.one_alloc W _
  have hsb : Box W1 W.heap.size (.slice none 0 0) := by rw [hW1]; exact Box.new W _ _
  obtain ⟨sb, hsb'⟩ : ∃ sb, W.heap.size = sb := ⟨_, rfl⟩
  rw [← hW1, hsb']
  rw [hsb'] at hsb
  have HSB := Lib.hid hsb'
  have HK1 := Lib.hid (And.intro k1 hsb)
  clear hW1 hsb' k1 hsb
  refine callsIn_WR.2 ((all_any bt W1).mono ?_)
  rintro e W2 ⟨bx, rfl, hbox, k2, hbxn⟩
  have k12 : Kept (fun _ => False) W W2 := HK1.out.1.trans k2 (fun _ _ e => e)
  have hT2 := HT.out.kept k12 (fun _ _ e => e)
  have hsb2 := HK1.out.2.kept k2 (fun e => e)
  have hsl := hsb2.lt
  have hne : bx ≠ sb := fun e => by have := HSB.out; have := HK1.out.2.lt; omega
  have hnf := run_eq_nilFunc (P := Tryz.prog) W2 (.func 49) #[] #[.pointer (some ⟨bx, 0, none⟩)] Tryz.underlying39
  have hlen : E.length ≤ 1024 := hT2.allR.small
  have HT2 := Lib.hid (And.intro hT2 (And.intro k12 hbox))
  have HNE := Lib.hid (And.intro hne (And.intro hbxn hlen))
  have HB := Lib.hid hsb2
  clear hT2 k2 k12 hbox hne hbxn hsb2 hlen
  gi_wp2_with fail
  obtain ⟨hT2, k12, hbox⟩ := HT2.out
  obtain ⟨hne, hbxn, hlen⟩ := HNE.out
  have hz12 := k12.size
  have hsbw := HSB.out
  have hRd : AllRd bx bt m iv E F W2 := ⟨hbox.cell, hbox.lt, hT2.allR⟩
  have hAD : ∀ b, AllD bt E F b → b < W.heap.size := HT.out.allR.dlt
  refine wpW_rangeG (all1_any bx bt m iv E F) rfl all_enters (fun _ => by rfl) (fun (pre : List En) U W' => Coll sb 65 2 pre.length (prV (kvs pre)) U W') (fun _ _ _ => False) (fun b => b = sb)
    (fun (pre : List En) U W W' h k => Coll.kept h k) (fun _ _ _ _ h _ => h) ?_ ?_ ?_ hRd (fun W W' h k => h.kept k (fun e => e (.inl rfl)) (fun b hb e => e (.inr hb))) (Coll.start HB.out rfl) ?_ ?_ (fun _ _ _ _ h => h.elim)
  · rintro b rfl (h | h)
    · exact hne h.symm
    · have := hAD _ h
      omega
  · rintro b (rfl | h)
    · exact hbox.lt
    · exact hT2.allR.dlt b h
  · rintro b rfl
    exact hsl
  · intro l pre x rest U' W3 hitems hi hkw hlt' hD' hRd' hl hlD hlW hlw hUU
    have hx : x ∈ E := (ordT_perm m E).mem_iff.1 (by rw [← hitems]; simp)
    have hpl : pre.length < 1024 := by
      have h1 := (ordT_perm m E).length_eq
      rw [← hitems] at h1
      simp at h1
      omega
    have hT3 : Tb W3 bt m iv E F := hT2.kept hkw (fun b hb e => by have := HT.out.lt b hb; omega)
    have LT := Lib.hid hlt'
    have HX := Lib.hid (And.intro hT3 hx)
    have HI := Lib.hid hi
    have HL := Lib.hid hl
    have HLN : l ≠ bt ∧ W.heap.size ≤ l := ⟨fun e => by have := HT.out.lt bt (.inl rfl); omega, by omega⟩
    have HLD := Lib.hid HLN
    clear hlt' hD' hRd' hUU hkw hitems hi hl hlD hx hT3 hRd hAD hT2 k12 hbox hnf HLN hlw hbxn hlen
    simp only [encE, List.zip_toArray, List.zip_cons_cons, List.zip_nil_left, List.foldl_toArray', List.foldl_cons, List.foldl_nil, List.setIfInBounds_toArray, List.set_cons_succ, List.set_cons_zero]
    gi_wp2_with (rw [Oper.semAt_eq _ _ _ (fun c h => by cases h)]; go_simp; try go_bits)
    refine ⟨trivial, ?_⟩
    intro W4 kl zl
    have ZL := Lib.hid zl
    clear zl
    have hi2 := HI.out.kept (kl.mono fun b _ e h => by subst e; exact HL.out h)
    obtain ⟨o, ho, hrow, hoo, hU⟩ := hi2
    have hT4 : Tb W4 bt m iv E F := HX.out.1.kept kl (fun b hb e => by have := HT.out.lt b hb; have := HLD.out.2; omega)
    have hcv := (hT4.en x HX.out.2).data.conv (c := x.c)
    have hco := ho.cell
    have hfo := ho.frozen
    have hrow2 := ownsRow_kept hrow (Kept.one_alloc W4 (.cells #[.string x.key, .string x.data] 65)) (fun _ _ e => e)
    clear hT4
    gi_wp2_with (first
      | (gi_at_builtin; refine wpListW_append_mine rfl _ _ entP rfl rfl hrow2 (some ⟨W4.heap.size, 0, none⟩) 1 1 [.string x.key, .string x.data] rfl rfl (holds_block (heap_alloc_new W4 _)) (by simp [Value.oneCell']) (by unfold maxLen; omega) (by omega) ?_
         intro a' c' w' h2 h3 h4
         have bo4 := (ho.alloc (.cells #[.string x.key, .string x.data] 65)).kept h3 (fun e => (hoo _ e).2 rfl)
         have hco4 := bo4.cell
         have hfo4 := bo4.frozen
         go_frame)
      | (rw [Oper.semAt_eq _ _ _ (fun c h => by cases h)]; go_simp; try go_bits))
    obtain ⟨e1, e2, e3, e4, e5, -⟩ := coll_round kl HL.out LT.out hlW ho hrow hoo hU (Kept.one_alloc W4 (.cells #[.string x.key, .string x.data] 65)) h2 h3 h4
    have e6 : prV (kvs (pre ++ [x])) = prV (kvs pre) ++ [.string x.key, .string x.data] := by
      unfold kvs
      rw [List.map_append, prV_append]
      rfl
    refine ⟨e1, _, e2, e3, e4, ?_⟩
    show Coll sb 65 2 (pre ++ [x]).length (prV (kvs (pre ++ [x]))) _ _
    rw [e6]
    simpa using e5
  · intro items dk U3 W3 hfull hi hkw hRd' hdk hdkn hdkU hUU hUn hUlt
    obtain ⟨o, ho, hrow, hoo, hU⟩ := hi
    have hco := ho.cell
    have hn : ((kvs items).map (·.1)).Nodup := by
      rw [hfull]
      have h1 : (kvs (ordT m E)).Perm (kvs E) := (ordT_perm m E).map _
      refine ((h1.map _).nodup_iff).2 ?_
      have h2 := HT.out.keys
      unfold kvs
      rw [List.map_map]
      exact h2
    have hil : items.length = E.length := by rw [hfull, (ordT_perm m E).length_eq]
    have hpp : pairsP (kvs items) = pairsP (kvs E) := by
      rw [hfull]
      exact pairsP_perm ((ordT_perm m E).map _) (by rw [← hfull]; exact hn)
    have hsrt := sortP_any (kvs items) W3 hn o (by rw [kvs_len]; exact hrow) (by rw [kvs_len, hil]; omega)
    rw [hpp, kvs_len, hil] at hsrt
    have H := Lib.hid (And.intro hkw (And.intro hdk (And.intro hdkU hUn)))
    have HO := Lib.hid (And.intro hoo (And.intro ho hsrt))
    have hdn : W2.heap.size ≤ dk := hdkn
    have HZ := Lib.hid (And.intro hz12 hsbw)
    clear hfull hrow hkw hdk hdkU hUn hoo hUU hUlt hRd' hdkn hRd hAD hnf hn hil hpp hsrt ho hT2 k12 hbox hne hbxn hlen hsl
    gi_wp2_with fail
    refine callsIn_WR.2 (HO.out.2.2.mono ?_)
    rintro e W5 ⟨rfl, hrow5, k5⟩
    have hb5 := HO.out.2.1.kept k5 (fun e => (HO.out.1 _ e).2 rfl)
    have hco5 := hb5.cell
    have H5 := Lib.hid (And.intro hrow5 k5)
    clear hrow5 k5 hb5 hco
    gi_wp2_with fail
    obtain ⟨hkw, hdk, hdkU, hUn⟩ := H.out
    obtain ⟨hrow5, k5⟩ := H5.out
    have hdk5 : W5.heap[dk]? = some (.deferred (some [])) := (k5.block dk (Array.getElem?_eq_some_iff.1 hdk).1 (fun e => hdkU (HO.out.1 _ e).1)).trans hdk
    refine leaves_marks [dk] _ (by simp) (fun d hd => by rw [List.mem_singleton.1 hd]; exact hdk5) (fun W' kd => ?_)
    have hs1 := HZ.out
    have hsb1 := HSB.out
    have hbn : ∀ b, U3 b → W.heap.size ≤ b := fun b hb => by
      rcases hUn b hb with rfl | h <;> omega
    have hk12 := HT2.out.2.1
    refine ⟨_, results_tmp rfl _ _ _, o, rfl, ownsRow_kept hrow5 kd (fun b e hd => hdkU (by rw [← List.mem_singleton.1 hd]; exact (HO.out.1 b e).1)), fun b e => hbn b (HO.out.1 b e).1, ?_⟩
    refine Kept.none (((((hk12.mono (S' := fun b => W.heap.size ≤ b) (fun _ _ e => e.elim)).trans hkw (fun b _ e => ?_))).trans k5 (fun b _ e => hbn b (HO.out.1 b e).1)).trans kd (fun b _ e => ?_))
    · rw [e]
      omega
    · rw [List.mem_singleton.1 e]
      omega
end Go.Proofs.YtdkcnigghcbnpaaGreat
