/- Layer 12: the bytes of an array are the document's. -/
import Derived.Test.YtneliajeokajbaaPkBytes
namespace Go.Proofs.Ytneliajeokajbaa
open Go.RowKit
set_option maxRecDepth 100000

/-- Eight bits as a byte. -/
def byteOf (f : Nat → Bool) : Nat := (f 0).toNat + 2 * ((f 1).toNat + 2 * ((f 2).toNat + 2 * ((f 3).toNat + 2 * ((f 4).toNat + 2 * ((f 5).toNat + 2 * ((f 6).toNat + 2 * (f 7).toNat))))))
theorem byteOf_bits (x : Nat) : x % 256 = byteOf x.testBit := by
  have h : ∀ k, (x.testBit k).toNat = x / 2 ^ k % 2 := fun k => by
    rw [Nat.testBit_eq_decide_div_mod_eq]
    by_cases h : x / 2 ^ k % 2 = 1
    · simp [h]
    · have : x / 2 ^ k % 2 = 0 := by omega
      simp [this]
  unfold byteOf
  rw [h, h, h, h, h, h, h, h]
  simp only [Nat.reducePow]
  omega
theorem byteOf_congr {f g : Nat → Bool} (h : ∀ k, k < 8 → f k = g k) : byteOf f = byteOf g := by
  unfold byteOf
  rw [h 0 (by omega), h 1 (by omega), h 2 (by omega), h 3 (by omega), h 4 (by omega), h 5 (by omega), h 6 (by omega), h 7 (by omega)]
theorem wbyte_bits (ws : List Int) (i : Nat) : wbyte ws i = (byteOf (fun k => wbit ws (8 * i + k)) : Nat) := by
  unfold wbyte
  rw [byteOf_bits]
  congr 1
  refine byteOf_congr fun k hk => ?_
  rw [shr64_bit]
  unfold wbit
  rw [show (8 * i + k) / 64 = i / 8 by omega, show (8 * i + k) % 64 = k + 8 * (i % 8) by omega]
/-- The document's bit. -/
def docBit (width : Nat) (l : List Int) (b : Nat) : Bool := if b < width * l.length then (l.getD (b / width) 0).toNat.testBit (b % width) else false
def docBytes (width : Nat) (l : List Int) : List Int := ((width : Int) :: vput l.length) ++ (List.range ((width * l.length + 7) / 8)).map fun i => (byteOf (fun k => docBit width l (8 * i + k)) : Int)
theorem PkOk.bytes {width n : Nat} {ws l : List Int} (h : PkOk width n ws l) : pkBytes width n ws = docBytes width l := by
  unfold pkBytes docBytes
  rw [h.len]
  congr 1
  refine List.map_congr_left fun i _ => ?_
  rw [wbyte_bits]
  congr 1
  refine byteOf_congr fun k _ => ?_
  rw [h.bits]
  unfold docBit
  rw [h.len]
theorem known12_bytes : docBytes 3 [5, 1, 7] = [3, 3, 205, 1] := by
  unfold docBytes
  rw [show vput ([5, 1, 7] : List Int).length = [3] from vput_low 3 (by omega)]
  decide
end Go.Proofs.Ytneliajeokajbaa
