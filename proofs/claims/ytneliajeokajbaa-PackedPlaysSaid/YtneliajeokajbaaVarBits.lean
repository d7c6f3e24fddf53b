/- A signed number back: its bits. -/
import Derived.Test.YtneliajeokajbaaVarPlain
namespace Go.Proofs.Ytneliajeokajbaa
open Go.RowKit
set_option maxRecDepth 100000

def unzig (n : Nat) : Int := if n % 2 = 0 then (n / 2 : Nat) else -(n / 2 : Nat) - 1

theorem i64_xor_nat0 (x : Nat) (h : x < 9223372036854775808) : bits .xor .i64 (x : Int) 0 = x := by
  have e : (BitVec.ofInt 64 (x : Int) ^^^ BitVec.ofInt 64 0).toNat = x := by
    rw [show BitVec.ofInt 64 0 = 0#64 by decide, BitVec.xor_zero]
    simp only [BitVec.ofInt_natCast, BitVec.toNat_ofNat]
    omega
  show IntKind.i64.wrap (((BitVec.ofInt 64 (x : Int) ^^^ BitVec.ofInt 64 0).toNat : Nat) : Int) = _
  rw [e]
  simp [IntKind.wrap, IntKind.bits, IntKind.signed]
  omega
theorem i64_xor_ones (x : Nat) (h : x < 9223372036854775808) : bits .xor .i64 (x : Int) (-1) = -(x : Int) - 1 := by
  have e : (BitVec.ofInt 64 (x : Int) ^^^ BitVec.ofInt 64 (-1)).toNat = 18446744073709551615 - x := by
    rw [show BitVec.ofInt 64 (-1) = BitVec.allOnes 64 by decide, BitVec.xor_allOnes, BitVec.toNat_not]
    simp only [BitVec.ofInt_natCast, BitVec.toNat_ofNat]
    omega
  show IntKind.i64.wrap (((BitVec.ofInt 64 (x : Int) ^^^ BitVec.ofInt 64 (-1)).toNat : Nat) : Int) = _
  rw [e]
  simp [IntKind.wrap, IntKind.bits, IntKind.signed]
  omega
theorem unzig_bits (m : Nat) (h : m ≤ 18446744073709551615) : bits .xor .i64 ((m : Int) / 2) (wrap64 (-wrap64 (bits .and .u64 (m : Int) 1))) = unzig m := by
  have e : bits .and .u64 (m : Int) 1 = ((m % 2 : Nat) : Int) := by
    have := u64_and_nat m 1 (by omega) (by omega)
    rw [Nat.and_one_is_mod] at this
    exact this
  rw [e, show ((m : Int) / 2) = ((m / 2 : Nat) : Int) by omega]
  unfold unzig
  rcases Nat.mod_two_eq_zero_or_one m with h2 | h2
  · rw [h2, if_pos rfl, show wrap64 (-wrap64 ((0 : Nat) : Int)) = 0 by unfold wrap64; omega]
    exact i64_xor_nat0 (m / 2) (by omega)
  · rw [h2, if_neg (by omega), show wrap64 (-wrap64 ((1 : Nat) : Int)) = -1 by unfold wrap64; omega]
    exact i64_xor_ones (m / 2) (by omega)
end Go.Proofs.Ytneliajeokajbaa
