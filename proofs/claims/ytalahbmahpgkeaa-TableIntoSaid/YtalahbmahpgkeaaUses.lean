/- A table's kind, met through its interface: which method is called, and what a use makes of the table. -/
import Derived.Test.YtalahbmahpgkeaaTLaw
namespace Go.Proofs.Ytalahbmahpgkeaa
set_option linter.unusedVariables false
set_option linter.unusedSimpArgs false
open Go.RowKit Go.MapKept

theorem ml_use (n : Nat) (p : Value) (w : World) : (method (n + 1) 82 (.agg #[p]) "swingbridge/table.use").run Try.prog w = .ok (104, .agg #[p]) w := by kernel_rfl
theorem ml_peek (n : Nat) (p : Value) (w : World) : (method (n + 1) 82 (.agg #[p]) "swingbridge/table.peek").run Try.prog w = .ok (102, .agg #[p]) w := by kernel_rfl
theorem ml_add (n : Nat) (p : Value) (w : World) : (method (n + 1) 82 (.agg #[p]) "swingbridge/table.add").run Try.prog w = .ok (99, .agg #[p]) w := by kernel_rfl
theorem ml_drop (n : Nat) (p : Value) (w : World) : (method (n + 1) 82 (.agg #[p]) "swingbridge/table.drop").run Try.prog w = .ok (101, .agg #[p]) w := by kernel_rfl
theorem ml_size (n : Nat) (p : Value) (w : World) : (method (n + 1) 82 (.agg #[p]) "swingbridge/table.size").run Try.prog w = .ok (103, .agg #[p]) w := by kernel_rfl
theorem ml_nil (n : Nat) (p : Value) (w : World) : (nilAhead (n + 1) 82 (.agg #[p]) "swingbridge/table.add").run Try.prog w = .ok (some false) w := by kernel_rfl
theorem mh_use (n : Nat) (p : Option Nat) (w : World) : (method (n + 1) 74 (.map p) "swingbridge/table.use").run Try.prog w = .ok (67, .map p) w := by kernel_rfl
theorem mh_peek (n : Nat) (p : Option Nat) (w : World) : (method (n + 1) 74 (.map p) "swingbridge/table.peek").run Try.prog w = .ok (65, .map p) w := by kernel_rfl
theorem mh_add (n : Nat) (p : Option Nat) (w : World) : (method (n + 1) 74 (.map p) "swingbridge/table.add").run Try.prog w = .ok (62, .map p) w := by kernel_rfl
theorem mh_drop (n : Nat) (p : Option Nat) (w : World) : (method (n + 1) 74 (.map p) "swingbridge/table.drop").run Try.prog w = .ok (64, .map p) w := by kernel_rfl
theorem mh_size (n : Nat) (p : Option Nat) (w : World) : (method (n + 1) 74 (.map p) "swingbridge/table.size").run Try.prog w = .ok (66, .map p) w := by kernel_rfl
theorem mh_nil (n : Nat) (p : Option Nat) (w : World) : (nilAhead (n + 1) 74 (.map p) "swingbridge/table.add").run Try.prog w = .ok (some false) w := by kernel_rfl
theorem ma_use (n : Nat) (a : Option Addr) (l c : Nat) (w : World) : (method (n + 1) 84 (.slice a l c) "swingbridge/table.use").run Try.prog w = .ok (122, .slice a l c) w := by kernel_rfl
theorem ma_peek (n : Nat) (a : Option Addr) (l c : Nat) (w : World) : (method (n + 1) 84 (.slice a l c) "swingbridge/table.peek").run Try.prog w = .ok (120, .slice a l c) w := by kernel_rfl
theorem ma_add (n : Nat) (a : Option Addr) (l c : Nat) (w : World) : (method (n + 1) 84 (.slice a l c) "swingbridge/table.add").run Try.prog w = .ok (117, .slice a l c) w := by kernel_rfl
theorem ma_drop (n : Nat) (a : Option Addr) (l c : Nat) (w : World) : (method (n + 1) 84 (.slice a l c) "swingbridge/table.drop").run Try.prog w = .ok (119, .slice a l c) w := by kernel_rfl
theorem ma_size (n : Nat) (a : Option Addr) (l c : Nat) (w : World) : (method (n + 1) 84 (.slice a l c) "swingbridge/table.size").run Try.prog w = .ok (121, .slice a l c) w := by kernel_rfl
theorem ma_nil (n : Nat) (a : Option Addr) (l c : Nat) (w : World) : (nilAhead (n + 1) 84 (.slice a l c) "swingbridge/table.add").run Try.prog w = .ok (some false) w := by kernel_rfl

section
variable {W W' : World} {bt : Nat} {m : TM} {iv : Value} {E : List En} {F : Nat → Prop} {a : Option Addr} {n c : Nat} {k : ByteArray}

/-- A use of a key: what the interface's method makes of the table, by kinds. -/
theorem use_l (h : Tb W bt m iv E F) (hkd : m.kd = 3) : ∃ p, iv = .iface 82 (.agg #[p]) ∧ Calls Try.prog 104 #[.agg #[p], .string k] W fun e w' => e = .returned (enV (lookT k E)) ∧ ∃ F', Tb w' bt m iv (useT m k E) F' ∧ (∀ b, F' b → F b) ∧ Kept F W w' := by
  obtain ⟨bl, bm, ls, rfl, hl, hE, rfl⟩ := h.kind.l hkd
  refine ⟨_, rfl, (rec_use (k := k) hl).mono ?_⟩
  rintro e w' ⟨rfl, h1, k1⟩
  refine ⟨by rw [pairs_val hE], Lfp bl bm (useE k ls), ?_, fun b hb => fp_use hb, k1⟩
  refine h.turn k1 (fun _ e => e) ⟨fun _ => ⟨bl, bm, useE k ls, rfl, h1, pairs_use hE k hkd, rfl⟩, fun e => by omega, fun e => by omega⟩ (fun b hb => .inl (fp_use hb)) (useT_perm h.keys m k) (List.Sublist.refl _) (fun e => by omega)
theorem hEnts_look (k : ByteArray) (E : List En) : hV (lookE k (hEnts E)) = enV (lookT k E) := by
  have h1 : lookE k (hEnts E) = (lookT k E).map fun x => ⟨x.b, x.key, ()⟩ := by unfold lookE hEnts lookT; rw [List.find?_map]; rfl
  rw [h1]
  cases lookT k E <;> rfl
theorem hEnts_keys (E : List En) : (hEnts E).map (·.k) = E.map (·.key) := by simp [hEnts]
theorem use_h (h : Tb W bt m iv E F) (hkd : m.kd = 2) : ∃ p, iv = .iface 74 (.map p) ∧ Calls Try.prog 67 #[.map p, .string k] W fun e w' => e = .returned (enV (lookT k E)) ∧ W = w' := by
  obtain ⟨hm, rfl, ht, rfl⟩ := h.kind.h hkd
  refine ⟨_, rfl, (hash_use (k := k) ht (by rw [hEnts_keys]; exact h.keys)).mono ?_⟩
  rintro e w' ⟨rfl, rfl⟩
  exact ⟨by rw [hEnts_look], rfl⟩
theorem arr_look (h : Tb W bt m iv E F) (hkd : m.kd = 1) (b0 b1 b2 b3 : UInt8) : aV (E.map (·.b))[numV b0 b1 b2 b3]? = enV (lookT ⟨#[b0, b1, b2, b3]⟩ E) := by
  have hr := (rightB_iff _ _ _ _ _).1 h.right
  have ha := h.arr hkd
  have hlen : E.length = m.mx.toNat := by simpa using congrArg List.length ha
  have hN : numV b0 b1 b2 b3 < 4294967296 := by
    have h0 := b0.toNat_lt
    have h1 := b1.toNat_lt
    have h2 := b2.toNat_lt
    have h3 := b3.toNat_lt
    unfold numV
    omega
  rw [← numK_numV]
  generalize numV b0 b1 b2 b3 = N at hN ⊢
  have hat : ∀ i x, E[i]? = some x → x.key = numK i := by
    intro i x hx
    have h1 : (E.map (·.key))[i]? = some x.key := by rw [List.getElem?_map, hx]; rfl
    rw [ha, List.getElem?_map] at h1
    obtain ⟨j, hj, e⟩ := Option.map_eq_some_iff.1 h1
    have := List.getElem?_range (i := i) (n := m.mx.toNat) (by rw [← hlen]; exact (List.getElem?_eq_some_iff.1 hx).1)
    rw [this] at hj
    cases hj
    exact e.symm
  by_cases hlt : N < E.length
  · have hx : E[N]? = some E[N] := List.getElem?_eq_getElem hlt
    have hk := hat N _ hx
    rw [List.getElem?_map, hx]
    rcases split_en h.keys (numK N) with ⟨_, e2, _⟩ | ⟨l1, x, l2, e0, e1, e2, _⟩
    · exact (e2 _ (List.getElem_mem hlt) hk).elim
    · rw [e2]
      have hxm : x ∈ E := by rw [e0]; simp
      have : E[N] = x := by
        obtain ⟨i, hi, e⟩ := List.getElem_of_mem hxm
        have h1 := hat i x (by rw [List.getElem?_eq_getElem hi, e])
        rw [e1] at h1
        have := numK_inj (by omega) (by omega) h1
        subst this
        exact e
      rw [this]
      rfl
  · rw [List.getElem?_eq_none (by simpa using hlt)]
    have : lookT (numK N) E = none := by
      refine List.find?_eq_none.2 fun x hx => ?_
      simp only [decide_eq_true_eq]
      intro e
      obtain ⟨i, hi, e'⟩ := List.getElem_of_mem hx
      have h1 := hat i x (by rw [List.getElem?_eq_getElem hi, e'])
      rw [e] at h1
      have := numK_inj (by omega) (by omega) h1
      omega
    rw [this]
    rfl
theorem use_a (h : Tb W bt m iv E F) (hkd : m.kd = 1) (hk : (k.size : Int) = m.ks) : ∃ a l c, iv = .iface 84 (.slice a l c) ∧ Calls Try.prog 122 #[.slice a l c, .string k] W (fun e w' => e = .returned (enV (lookT k E)) ∧ W = w') ∧ Calls Try.prog 120 #[.slice a l c, .string k] W (fun e w' => e = .returned (enV (lookT k E)) ∧ W = w') := by
  have hr := (rightB_iff _ _ _ _ _).1 h.right
  obtain ⟨sv, rfl, ho, rfl⟩ := h.kind.a hkd
  obtain ⟨a, c, rfl, -, -, -⟩ := own_form ho
  have hl := h.len
  obtain ⟨b0, b1, b2, b3, rfl⟩ := four_bytes k (by omega)
  have hlen : (E.map (·.b)).length = E.length := by simp
  have hmap : (E.map (·.b)).map pV = E.map fun x => .pointer (some ⟨x.b, 0, none⟩) := by rw [List.map_map]; rfl
  rw [← hmap, ← hlen] at ho
  refine ⟨a, E.length, c, rfl, ?_, ?_⟩
  · have := arr_use ho (by omega) b0 b1 b2 b3
    rw [arr_look h hkd, hlen] at this
    exact this
  · have := arr_peek ho (by omega) b0 b1 b2 b3
    rw [arr_look h hkd, hlen] at this
    exact this
end
end Go.Proofs.Ytalahbmahpgkeaa
