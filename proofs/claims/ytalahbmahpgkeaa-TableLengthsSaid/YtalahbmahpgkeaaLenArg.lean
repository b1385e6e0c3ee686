/- Bytes that came in, as a table's keys and values. -/
import Derived.Test.YtalahbmahpgkeaaLenWalk
import Derived.Test.YtalahbmahpgkeaaTexts
namespace Go.Proofs.Ytalahbmahpgkeaa
set_option linter.unusedVariables false
set_option linter.unusedSimpArgs false
open Go.RowKit Go.MapKept

/-- The text of these bytes. -/
def bytesOf (s : Nat → Int) (n : Nat) : ByteArray := ⟨((List.range n).map fun i => UInt8.ofNat (s i).toNat).toArray⟩
theorem bytes_of_octets {W : World} {a : Option Addr} {n : Nat} {s : Nat → Int} (h : Octets W a n s) : BytesAt W a n (bytesOf s n) := by
  refine ⟨?_, fun h0 ad e => ?_, fun i hi => ?_⟩
  · show n = (((List.range n).map fun i => UInt8.ofNat (s i).toNat).toArray).size
    simp
  · obtain ⟨b, o, e', _⟩ := h 0 h0
    rw [e'] at e
    exact ⟨b, o, (Option.some.inj e).symm⟩
  · obtain ⟨b, o, e, hb, hc, h0, h1⟩ := h i hi
    refine ⟨b, o, e, hb, ?_⟩
    rw [hc]
    have : (nums (bytesOf s n)).getD i 0 = s i := by
      unfold nums bytesOf
      simp only [List.getD_eq_getElem?_getD, List.getElem?_map, List.getElem?_range hi, Option.map_some, Option.getD_some]
      rw [UInt8.toNat_ofNat']
      omega
    rw [this]
theorem tableLengths_oct (x0 x1 x2 : Int) (a3 : Option Addr) (n3 c3 : Nat) (s3 : Nat → Int) (a4 : Option Addr) (n4 c4 : Nat) (s4 : Nat → Int) (x5 : Int) (W : World) (h3 : Octets W a3 n3 s3) (p3 : n3 ≤ c3) (q3 : c3 ≤ 9223372036854775807) (h4 : Octets W a4 n4 s4) (p4 : n4 ≤ c4) (q4 : c4 ≤ 9223372036854775807) :
    Calls Try.prog 5 #[.int .i64 x0, .int .i64 x1, .int .i64 x2, .slice a3 n3 c3, .slice a4 n4 c4, .int .i64 x5] W fun e w' => e = .returned (.bool true) ∧ Kept (fun _ => False) W w' :=
  tableLengths_any x0 x1 x2 x5 (bytes_of_octets h3) p3 (bytes_of_octets h4) p4 q3 q4
end Go.Proofs.Ytalahbmahpgkeaa
