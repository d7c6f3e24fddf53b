/- Layer 12: how many bits a number has: Width, ref12.Width. -/
import Derived.Test.YtneliajeokajbaaPkMk
import Derived.Test.YtneliajeokajbaaShelf
import Derived.Lib.BitFns
import Derived.Lib.ItoaNum
namespace Go.Proofs.Ytneliajeokajbaa
open Go.RowKit
set_option maxRecDepth 100000

def wd (x : Nat) : Nat := max 1 (Lib.bitLen x)
theorem bitLen_half (x : Nat) (h : 1 ≤ x) (h2 : x < 18446744073709551616) : Lib.bitLen x = 1 + Lib.bitLen (x / 2) := Lib.bitLen_half x (by omega) h2
theorem bitLen_pos (x : Nat) (h : 1 ≤ x) (h2 : x < 18446744073709551616) : 1 ≤ Lib.bitLen x := by rw [bitLen_half x h h2]; omega
theorem wd_half (x : Nat) (h : 2 ≤ x) (h2 : x < 18446744073709551616) : wd x = wd (x / 2) + 1 := by
  unfold wd
  rw [bitLen_half x (by omega) h2]
  have := bitLen_pos (x / 2) (by omega) (by omega)
  omega
theorem wd_one (x : Nat) (h : x ≤ 1) : wd x = 1 := by
  have : x = 0 ∨ x = 1 := by omega
  rcases this with rfl | rfl <;> decide
theorem wd_le (x k : Nat) (hk : 1 ≤ k) (hk2 : k ≤ 63) (h2 : x < 18446744073709551616) : wd x ≤ k ↔ x < 2 ^ k := by
  unfold wd
  constructor
  · intro h
    by_cases h0 : x = 0
    · subst h0; exact Nat.pow_pos (by decide)
    · have h3 := (Lib.bitLenAux_bounds 64 x h2 h0).2.2
      exact Nat.lt_of_lt_of_le h3 (Nat.pow_le_pow_right (by decide) (by have : Lib.bitLenAux 64 x = Lib.bitLen x := rfl; omega))
  · intro h
    have := Lib.bitLen_le x k (by omega) h
    omega
/-- P12.1. -/
def width12 (n : Int) : Nat := if 0 ≤ n ∧ n ≤ 2147483647 then wd n.toNat else 0
set_option maxHeartbeats 1000000 in
theorem packedWidth_calls (n : Int) (w : World) (hn : InK .i64 n) : Calls Try.prog 68 #[.int .i64 n] w fun e w' => e = .returned (.int .i64 (width12 n)) ∧ w = w' := by
  have hn2 := hn.i64
  by_cases h0 : n < 0
  · have HE := Lib.hid (show width12 n = 0 by unfold width12; rw [if_neg (by omega)])
    have HN : n % 18446744073709551616 = n + 18446744073709551616 := by omega
    have hle := Lib.hid (Lib.bitLen_le (n + 18446744073709551616).toNat 64 (by omega) (by omega))
    go_enter Try.func68, Try.ntmps68
    go_wp2_with fail
    rw [show IntKind.u64.wrap n = n + 18446744073709551616 by rw [u64_wrap]; omega]
    refine (Try.bits_Len64 _ w (by omega) (by omega)).mono ?_
    rintro e w' ⟨rfl, rfl⟩
    have hle' := hle.out
    go_wp2_with fail
    go_ret
    exact ⟨by rw [HE.out]; rfl, rfl⟩
  · have h00 : 0 ≤ n := by omega
    obtain ⟨x, rfl⟩ := Int.eq_ofNat_of_zero_le h00
    have HN : (x : Int) % 18446744073709551616 = x := by omega
    have hw31 := wd_le x 31 (by omega) (by omega) (by omega)
    have hle := Lib.hid (Lib.bitLen_le x 64 (by omega) (by omega))
    have HW := Lib.hid (show (wd x : Int) = max 1 (Lib.bitLen x : Int) by unfold wd; omega)
    by_cases h31 : x < 2147483648
    · have HE := Lib.hid (show (width12 (x : Int) : Int) = max (Lib.bitLen x : Int) 1 by unfold width12; rw [if_pos (by omega)]; show (wd x : Int) = _; unfold wd; omega)
      have hd : decide (31 < max (Lib.bitLen x : Int) 1) = false := decide_eq_false (by have := hw31.2 h31; unfold wd at this; omega)
      clear hw31
      go_enter Try.func68, Try.ntmps68
      go_wp2_with fail
      refine (Try.bits_Len64 _ w (by omega) (by omega)).mono ?_
      rintro e w' ⟨rfl, rfl⟩
      rw [show ((x : Int).toNat) = x by omega]
      go_wp2_with fail
      go_ret
      exact ⟨by rw [HE.out]; rfl, rfl⟩
    · have HE := Lib.hid (show width12 (x : Int) = 0 by unfold width12; rw [if_neg (by omega)])
      have hd2 : 31 < max (Lib.bitLen x : Int) 1 := by
        have h9 : ¬ wd x ≤ 31 := fun h => h31 (hw31.1 h)
        unfold wd at h9
        omega
      have hd : decide (31 < max (Lib.bitLen x : Int) 1) = true := decide_eq_true hd2
      clear hw31
      go_enter Try.func68, Try.ntmps68
      go_wp2_with fail
      refine (Try.bits_Len64 _ w (by omega) (by omega)).mono ?_
      rintro e w' ⟨rfl, rfl⟩
      rw [show ((x : Int).toNat) = x by omega]
      go_wp2_with fail
      go_ret
      exact ⟨by rw [HE.out]; rfl, rfl⟩
set_option maxHeartbeats 1000000 in
theorem ref12Width_calls (n : Int) (w : World) (hn : InK .i64 n) : Calls Try.prog 69 #[.int .i64 n] w fun e w' => e = .returned (.int .i64 (width12 n)) ∧ w = w' := by
  have hn2 := hn.i64
  by_cases h0 : n < 0
  · have HE := Lib.hid (show width12 n = 0 by unfold width12; rw [if_neg (by omega)])
    go_enter Try.func69, Try.ntmps69
    go_wp2_with fail
    go_ret
    exact ⟨by rw [HE.out]; rfl, rfl⟩
  · have hd0 : decide (n < 0) = false := decide_eq_false h0
    have h00 : 0 ≤ n := by omega
    by_cases h31 : 2147483647 < n
    · have HE := Lib.hid (show width12 n = 0 by unfold width12; rw [if_neg (by omega)])
      clear h0
      go_enter Try.func69, Try.ntmps69
      go_wp2_with fail
      go_ret
      exact ⟨by rw [HE.out]; rfl, rfl⟩
    · have hd1 : decide (2147483647 < n) = false := decide_eq_false h31
      have h32 : n ≤ 2147483647 := by omega
      clear h31 h0
      obtain ⟨x, rfl⟩ := Int.eq_ofNat_of_zero_le h00
      have HE := Lib.hid (show width12 (x : Int) = wd x by unfold width12; rw [if_pos (by omega)]; rfl)
      go_enter Try.func69, Try.ntmps69
      go_wp2_with fail
      go_loopw [0, 3] (fun g n wr => ∃ k m : Nat, g = .int .i64 k ∧ n = .int .i64 m ∧ k ≤ x ∧ Hid (m + wd k = wd x + 1) ∧ m ≤ x + 1 - k ∧ w = wr) (fun g _ _ => (intOf g).toNat)
      case atStart => exact ⟨x, 1, rfl, rfl, Nat.le_refl _, Lib.hid (by omega), by omega, rfl⟩
      case round =>
        obtain ⟨k, m, rfl, rfl, hk, HM, hm, rfl⟩ := hrel
        by_cases h1 : 1 < k
        · have HH := Lib.hid (wd_half k (by omega) (by omega))
          go_wp2_with fail
          go_roundw
          case rel => exact ⟨k / 2, m + 1, by simp, by simp, by omega, Lib.hid (by have := HM.out; have := HH.out; omega), by omega, trivial⟩
          case measure => simp [intOf]; omega
        · have HH := Lib.hid (wd_one k (by omega))
          have h2 : k ≤ 1 := by omega
          clear h1
          go_wp2_with fail
          go_ret
          refine ⟨?_, rfl⟩
          have e : m = width12 (x : Int) := by rw [HE.out]; have := HM.out; have := HH.out; omega
          rw [← e]
          rfl
end Go.Proofs.Ytneliajeokajbaa
