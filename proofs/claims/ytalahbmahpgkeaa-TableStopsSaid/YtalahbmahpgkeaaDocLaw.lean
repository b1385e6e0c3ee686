/- Tables as the document orders them, plain: what calls make of the ordered pairs. -/
import Derived.Test.YtalahbmahpgkeaaTwoT
namespace Go.Proofs.Ytalahbmahpgkeaa
set_option linter.unusedVariables false
set_option linter.unusedSimpArgs false
open Go.RowKit Go.MapKept

abbrev keyP (p : Pr) : ByteArray := p.1
def ordP (m : TM) (P : List Pr) : List Pr := if m.kd = 2 then sortK keyP P else P
/-- One more. -/
def raddP (m : TM) (y : Pr) (Q : List Pr) : List Pr := if m.kd = 2 then insK keyP y Q else addP m y Q
def rupdP (m : TM) (k v : ByteArray) (fl : Int) (Q : List Pr) : List Pr :=
  if codeP m k v fl Q = 0 then (if (lookP k Q).isSome then setP k v (useP m k Q) else raddP m (k, v) Q) else Q
section
variable {P Q : List Pr} {m : TM} {k v : ByteArray} {fl : Int}
theorem ordP_perm (m : TM) (P : List Pr) : (ordP m P).Perm P := by
  unfold ordP
  split
  · exact sortK_perm P
  · exact .refl _
theorem ordP_nodup (hn : (P.map (·.1)).Nodup) : ((ordP m P).map (·.1)).Nodup := (((ordP_perm m P).map _).nodup_iff).2 hn
theorem ordP_rises (hn : (P.map (·.1)).Nodup) (h : m.kd = 2) : Rises keyP (ordP m P) := by
  unfold ordP
  rw [if_pos h]
  exact sortK_rises hn
theorem ordP_look (hn : (P.map (·.1)).Nodup) (k : ByteArray) : lookP k (ordP m P) = lookP k P := perm_look (ordP_perm m P) (ordP_nodup hn) k
theorem ordP_len : (ordP m P).length = P.length := (ordP_perm m P).length_eq
theorem ordP_code (hn : (P.map (·.1)).Nodup) : codeP m k v fl (ordP m P) = codeP m k v fl P := by
  unfold codeP addCP
  rw [ordP_look hn, ordP_len]
theorem setP_keys (k v : ByteArray) (P : List Pr) : (setP k v P).map (·.1) = P.map (·.1) := by
  unfold setP
  rw [List.map_map]
  refine List.map_congr_left fun p hp => ?_
  simp only [Function.comp]
  split <;> rfl
theorem ordP_use (hn : (P.map (·.1)).Nodup) (k : ByteArray) : ordP m (useP m k P) = useP m k (ordP m P) := by
  unfold ordP useP
  by_cases h : m.kd = 2
  · simp [h]
  · simp [h]
theorem useP_nodup (hn : (P.map (·.1)).Nodup) (k : ByteArray) : ((useP m k P).map (·.1)).Nodup := (((useP_perm hn m k).map _).nodup_iff).2 hn
theorem ordP_set (hn : (P.map (·.1)).Nodup) (k v : ByteArray) : ordP m (setP k v P) = setP k v (ordP m P) := by
  unfold ordP
  split
  · unfold setP
    exact sortK_map (kb := keyP) (key := keyP) (fun p : Pr => if p.1 = k then (p.1, v) else p) (fun x => by show (if x.1 = k then (x.1, v) else x).1 = x.1; split <;> rfl) hn
  · rfl
theorem ordP_upd (hn : (P.map (·.1)).Nodup) : ordP m (updP m k v fl P) = rupdP m k v fl (ordP m P) := by
  unfold updP rupdP
  rw [ordP_code hn, ordP_look hn]
  split
  · rename_i h0
    split
    · rename_i h1
      rw [ordP_set (useP_nodup hn k), ordP_use hn]
    · rename_i h1
      unfold raddP ordP
      by_cases h : m.kd = 2
      · rw [if_pos h, if_pos h, if_pos h]
        have hlt : ¬ m.mx ≤ (P.length : Int) := by
          intro hle
          unfold codeP addCP at h0
          split at h0
          · omega
          · split at h0
            · omega
            · rw [if_neg (by omega), if_pos ⟨h, hle⟩] at h0
              omega
        unfold addP
        rw [if_pos (by omega), sortK_snoc]
      · rw [if_neg h, if_neg h, if_neg h]
  · rfl
theorem ordP_del (hn : (P.map (·.1)).Nodup) : ordP m (delP m k P) = delP m k (ordP m P) := by
  unfold ordP delP dropP
  by_cases h : m.kd = 2
  · rw [if_pos h, if_pos h, if_neg (by omega), if_neg (by omega)]
    exact sortK_filter _ hn
  · rw [if_neg h, if_neg h]
theorem ordP_delC (hn : (P.map (·.1)).Nodup) : delCP m k (ordP m P) = delCP m k P := by
  unfold delCP
  rw [ordP_look hn]
theorem ordT_kvs {E : List En} (hn : (E.map (·.key)).Nodup) : kvs (if m.kd = 2 then sortK (·.key) E else E) = ordP m (kvs E) := by
  unfold ordP kvs
  split
  · exact (sortK_map (kb := keyP) (key := fun x : En => x.key) (fun x => (x.key, x.data)) (fun x => rfl) hn).symm
  · rfl
end
theorem bless_cmp : ∀ a b : List UInt8, Op.bytesLess a b = decide (Lib.compareBytes a b < 0)
  | [], [] => rfl
  | _ :: _, [] => rfl
  | [], _ :: _ => rfl
  | x :: a, y :: b => by
    unfold Op.bytesLess Lib.compareBytes
    by_cases h : x < y
    · rw [if_pos h]
      simp [h]
    · rw [if_neg h]
      by_cases h2 : y < x
      · rw [if_pos h2]
        have : (x == y) = false := by
          rw [beq_eq_false_iff_ne]
          rintro rfl
          exact absurd h2 (UInt8.lt_irrefl x)
        simp [h, this]
      · rw [if_neg h2]
        have : x = y := UInt8.le_antisymm (UInt8.not_lt.1 h2) (UInt8.not_lt.1 h)
        subst this
        rw [bless_cmp a b]
        simp
theorem keyLt_less (a b : ByteArray) : Op.bytesLess a.toList b.toList = keyLt a b := by
  rw [bless_cmp, Lib.toList_data, Lib.toList_data]
  rfl
/-- Where a new one stands among those that rise. -/
theorem insK_split {α : Type} {key : α → ByteArray} {y : α} : ∀ {A B : List α}, (∀ x ∈ A, keyLt (key x) (key y) = true) → (∀ x, B.head? = some x → keyLt (key x) (key y) = false) → insK key y (A ++ B) = A ++ y :: B
  | [], [], _, _ => rfl
  | [], b :: B, _, h => by
    show (if keyLt (key b) (key y) then b :: insK key y B else y :: b :: B) = y :: b :: B
    rw [h b rfl, if_neg (by simp)]
  | a :: A, B, h1, h2 => by
    show (if keyLt (key a) (key y) then a :: insK key y (A ++ B) else y :: a :: (A ++ B)) = a :: (A ++ y :: B)
    rw [h1 a (by simp), if_pos rfl, insK_split (fun x hx => h1 x (.tail _ hx)) h2]
end Go.Proofs.Ytalahbmahpgkeaa
