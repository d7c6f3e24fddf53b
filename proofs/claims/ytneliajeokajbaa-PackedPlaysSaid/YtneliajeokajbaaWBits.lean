/- Words of 64 bits as a row of bits: plain, and the operations on them as the model has them. -/
import Derived.Test.YtneliajeokajbaaBase
import Derived.Laws.BitsAllLaws
namespace Go.Proofs.Ytneliajeokajbaa
open Go.RowKit

theorem InK.u64 {x : Int} (h : InK .u64 x) : 0 ≤ x ∧ x < 18446744073709551616 := by
  have := h.wf
  simp [Lit.wf, IntKind.min, IntKind.max, IntKind.signed, IntKind.bits] at this
  omega
theorem InK.of_u64 {x : Int} (h0 : 0 ≤ x) (h : x < 18446744073709551616) : InK .u64 x := ⟨by
  simp [Lit.wf, IntKind.min, IntKind.max, IntKind.signed, IntKind.bits]
  omega⟩
theorem u64_wrap (x : Int) : IntKind.u64.wrap x = x % 18446744073709551616 := by simp [IntKind.wrap, IntKind.bits, IntKind.signed]
/-- A shift to the left, cut off. -/
def shl64 (a k : Nat) : Nat := a * 2 ^ k % 18446744073709551616
theorem shl64_lt (a k : Nat) : shl64 a k < 18446744073709551616 := Nat.mod_lt _ (by decide)
theorem shl64_run (a k : Nat) : IntKind.u64.wrap ((a : Int) * 2 ^ k) = (shl64 a k : Int) := by
  rw [u64_wrap]
  unfold shl64
  simp
theorem shl64_bit (a k i : Nat) : (shl64 a k).testBit i = (decide (i < 64) && decide (k ≤ i) && a.testBit (i - k)) := by
  unfold shl64
  rw [show (18446744073709551616 : Nat) = 2 ^ 64 by decide, Nat.testBit_mod_two_pow, ← Nat.shiftLeft_eq, Nat.testBit_shiftLeft, Bool.and_assoc]
def shr64 (a k : Nat) : Nat := a / 2 ^ k
theorem shr64_run (a k : Nat) : (a : Int) / 2 ^ k = (shr64 a k : Int) := by
  unfold shr64
  simp
theorem shr64_lt (a k : Nat) (h : a < 18446744073709551616) : shr64 a k < 18446744073709551616 := Nat.lt_of_le_of_lt (Nat.div_le_self _ _) h
theorem shr64_bit (a k i : Nat) : (shr64 a k).testBit i = a.testBit (i + k) := by
  unfold shr64
  rw [← Nat.shiftRight_eq_div_pow, Nat.testBit_shiftRight, Nat.add_comm]
theorem not64_bit (b i : Nat) (h : b < 18446744073709551616) : (18446744073709551615 - b).testBit i = (decide (i < 64) && !b.testBit i) := by
  have := Nat.testBit_two_pow_sub_succ (n := 64) (x := b) (by simpa using h) i
  rw [show (2 : Nat) ^ 64 - (b + 1) = 18446744073709551615 - b by omega] at this
  exact this
theorem mask_bit (k i : Nat) : (2 ^ k - 1).testBit i = decide (i < k) := Nat.testBit_two_pow_sub_one k i
theorem bit_lt {a : Nat} (h : a < 18446744073709551616) (i : Nat) (hi : 64 ≤ i) : a.testBit i = false :=
  Nat.testBit_lt_two_pow (Nat.lt_of_lt_of_le h (by rw [show (18446744073709551616 : Nat) = 2 ^ 64 by decide]; exact Nat.pow_le_pow_right (by decide) hi))
theorem bit_lt_pow {a k : Nat} (h : a < 2 ^ k) (i : Nat) (hi : k ≤ i) : a.testBit i = false :=
  Nat.testBit_lt_two_pow (Nat.lt_of_lt_of_le h (Nat.pow_le_pow_right (by decide) hi))

/-- The b-th bit of a list of words. -/
def wbit (w : List Int) (b : Nat) : Bool := (w.getD (b / 64) 0).toNat.testBit (b % 64)
theorem wbit_out (w : List Int) (b : Nat) (h : 64 * w.length ≤ b) : wbit w b = false := by
  unfold wbit
  rw [List.getD_eq_getElem?_getD, List.getElem?_eq_none (by omega)]
  simp
theorem getD_set (w : List Int) (i j : Nat) (x : Int) (h : i < w.length) : (w.set i x).getD j 0 = if i = j then x else w.getD j 0 := by
  by_cases e : i = j
  · subst e; rw [if_pos rfl]; simp [List.getD_eq_getElem?_getD, h]
  · rw [if_neg e]; simp [List.getD_eq_getElem?_getD, e]
theorem wbit_set (w : List Int) (i : Nat) (x : Nat) (b : Nat) (h : i < w.length) : wbit (w.set i (x : Int)) b = if b / 64 = i then x.testBit (b % 64) else wbit w b := by
  unfold wbit
  rw [getD_set w i _ _ h]
  by_cases e : i = b / 64
  · rw [if_pos e, if_pos e.symm]; rfl
  · rw [if_neg e, if_neg (fun h => e h.symm)]
theorem wbit_zeros (n b : Nat) : wbit (List.replicate n 0) b = false := by
  unfold wbit
  rw [List.getD_eq_getElem?_getD, List.getElem?_replicate]
  split <;> simp
theorem wbit_append_zeros (w : List Int) (n b : Nat) : wbit (w ++ List.replicate n 0) b = wbit w b := by
  unfold wbit
  rw [List.getD_eq_getElem?_getD, List.getD_eq_getElem?_getD, List.getElem?_append]
  split
  · rfl
  · rw [List.getElem?_replicate, List.getElem?_eq_none (by omega)]
    split <;> rfl
/-- Words of equal bits are equal. -/
theorem words_eq {v w : List Int} (hv : ∀ x ∈ v, InK .u64 x) (hw : ∀ x ∈ w, InK .u64 x) (hl : v.length = w.length) (h : ∀ b, wbit v b = wbit w b) : v = w := by
  have r : ∀ x, InK .u64 x → 0 ≤ x ∧ x < 18446744073709551616 := fun x hx => by
    have := hx.wf
    simp [Lit.wf, IntKind.min, IntKind.max, IntKind.signed, IntKind.bits] at this
    omega
  refine List.ext_getElem hl fun i h1 h2 => ?_
  have k1 := r _ (hv _ (List.getElem_mem h1))
  have k2 := r _ (hw _ (List.getElem_mem h2))
  have e : v[i].toNat = w[i].toNat := by
    refine Nat.eq_of_testBit_eq fun j => ?_
    rcases Nat.lt_or_ge j 64 with hj | hj
    · have := h (64 * i + j)
      unfold wbit at this
      rw [show (64 * i + j) / 64 = i by omega, show (64 * i + j) % 64 = j by omega] at this
      simpa [List.getD_eq_getElem?_getD, h1, h2] using this
    · rw [bit_lt (by omega) j hj, bit_lt (by omega) j hj]
  omega
end Go.Proofs.Ytneliajeokajbaa
