/- Layer 12: the array: its words as bits; get and put. -/
import Derived.Test.YtneliajeokajbaaShift
import Derived.Test.YtneliajeokajbaaPiT
import Derived.Test.YtneliajeokajbaaOwnL
import Derived.Test.YtneliajeokajbaaLib1
import Derived.Test.YtneliajeokajbaaVarList
namespace Go.Proofs.Ytneliajeokajbaa
open Go.RowKit
set_option maxRecDepth 100000

/-- An array at block g: width, how many, words. -/
structure PArr (w : World) (g base width n : Nat) (ws : List Int) : Prop where mk ::
  out : ∃ A c, Blk w g 119 #[.int .i64 width, .int .i64 n, .slice A ws.length c] ∧ Own w base 71 .u64 (.slice A ws.length c) ws

theorem mask_run (k : Nat) (h : k ≤ 31) : IntKind.u64.wrap (IntKind.u64.wrap ((2 : Int) ^ k) - 1) = ((2 ^ k - 1 : Nat) : Int) := by
  have h1 : 2 ^ k ≤ 2 ^ 31 := Nat.pow_le_pow_right (by decide) h
  have h2 : 0 < 2 ^ k := Nat.pow_pos (by decide)
  have e : ((2 : Int) ^ k) = ((2 ^ k : Nat) : Int) := by simp
  rw [e, u64_wrap, u64_wrap]
  omega
theorem mask_lt (k : Nat) (h : k ≤ 31) : 2 ^ k - 1 < 2147483648 := by
  have h1 : 2 ^ k ≤ 2 ^ 31 := Nat.pow_le_pow_right (by decide) h
  omega
theorem get_run (a k : Nat) (ha : a < 18446744073709551616) (h : k ≤ 31) : wrap64 (bits .and .u64 (a : Int) ((2 ^ k - 1 : Nat) : Int)) = ((a &&& (2 ^ k - 1) : Nat) : Int) := by
  have h1 := mask_lt k h
  rw [u64_and_nat a _ ha (by omega)]
  have h2 : a &&& (2 ^ k - 1) ≤ 2 ^ k - 1 := Nat.and_le_right
  unfold wrap64
  omega
theorem and_mask_lt (a k : Nat) : a &&& (2 ^ k - 1) < 2 ^ k := by
  have h2 : a &&& (2 ^ k - 1) ≤ 2 ^ k - 1 := Nat.and_le_right
  have h3 : 0 < 2 ^ k := Nat.pow_pos (by decide)
  omega
set_option maxHeartbeats 2000000 in
theorem packedGet_calls (g base width n i : Nat) (ws : List Int) (w : World) (h : PArr w g base width n ws) (h1 : 1 ≤ width) (h2 : width ≤ 31) (hi : i ≤ 65536)
    (hw : width * i + width ≤ 64 * ws.length) :
    Calls Try.prog 89 #[.pointer (some ⟨g, 0, none⟩), .int .i64 i] w fun e w' => ∃ r : Nat, e = .returned (.int .i64 r) ∧ r < 2 ^ width ∧ (∀ k, k < width → r.testBit k = wbit ws (width * i + k)) ∧ Qt w w' := by
  obtain ⟨A, c, hb, ho⟩ := h.out
  have g0 : w.cell? ⟨g, 0, none⟩ = some (.int .i64 width) := hb.cell 0
  have g2 : w.cell? ⟨g, 2, none⟩ = some (.slice A ws.length c) := hb.cell 2
  obtain ⟨A', c', he, hr⟩ := ho.rd
  simp only [Value.slice.injEq, true_and] at he
  obtain ⟨rfl, rfl⟩ := he
  have hm : width * i ≤ 31 * 65536 := Nat.mul_le_mul h2 hi
  have em : ((width : Int) * (i : Int)) = ((width * i : Nat) : Int) := by simp
  generalize hM : width * i = m at *
  have HM := Lib.hid hM
  clear hM
  obtain ⟨ad, x, rfl, hc, HX, hx⟩ := hr.get (m / 64) (by omega)
  obtain ⟨X, rfl⟩ := Int.eq_ofNat_of_zero_le hx.u64.1
  have HXX : Hid (X < 18446744073709551616) := Lib.hid (by have := hx.u64.2; omega)
  have hq0 := Qt.refl w
  have HQ := Lib.hid (show ∀ k, (m % 64 + k < 64 → (m + k) / 64 = m / 64 ∧ (m + k) % 64 = m % 64 + k) ∧ (64 ≤ m % 64 + k → k < 64 → (m + k) / 64 = m / 64 + 1 ∧ (m + k) % 64 = m % 64 + k - 64) by intro k; omega)
  by_cases hov : 64 < m % 64 + width
  · obtain ⟨_, y, e0, hc2, HY, hy⟩ := hr.get (m / 64 + 1) (by omega)
    obtain rfl := Option.some.inj e0
    obtain ⟨Y, rfl⟩ := Int.eq_ofNat_of_zero_le hy.u64.1
    have HYY := Lib.hid hy.u64.2
    have HC2 := Lib.hid hc2
    clear hc2
    have hd : (64 : Int) < (m : Int) % 64 + (width : Int) := by omega
    have hq3 : m / 64 + 1 < ws.length := by omega
    have HOV := Lib.hid hov
    clear hov
    go_enter Try.func89, Try.ntmps89
    go_wp2_with fail
    go_quiet (fail)
    go_upto_region 4 with fail
    go_wp2_with (first
      | (refine wpl_load1 (t := 71) (ad.add (m / 64 + 1)) (.int .u64 Y) rfl (by kernel_rfl) HC2.out ?_)
      | (refine wpl_shl (t := 71) Y (64 - m % 64) _ rfl rfl (by omega) (by omega) ?_))
    go_ret
    have hA : X / 2 ^ (m % 64) ||| shl64 Y (64 - m % 64) < 18446744073709551616 := by
      have := Nat.or_lt_two_pow (n := 64) (x := X / 2 ^ (m % 64)) (y := shl64 Y (64 - m % 64)) (shr64_lt X (m % 64) HXX.out) (shl64_lt _ _)
      exact this
    refine ⟨(X / 2 ^ (m % 64) ||| shl64 Y (64 - m % 64)) &&& (2 ^ width - 1), ?_, and_mask_lt _ _, fun k hk => ?_, (by first | exact ⟨⟨_, rfl⟩⟩ | exact Qt.drewN hq0 _ | exact hq0)⟩
    · show Ending.returned (Value.int _ (wrap64 (bits .and .u64 (bits .or .u64 ((X : Int) / 2 ^ (m % 64)) _) _))) = _
      rw [mask_run _ h2, shr64_run X (m % 64), u64_or_nat _ _ (shr64_lt X (m % 64) HXX.out) (shl64_lt _ _)]
      exact congrArg (fun z => Ending.returned (Value.int .i64 z)) (get_run _ _ hA h2)
    · have hbx := HQ.out k
      unfold wbit
      rw [Nat.testBit_and, mask_bit, Nat.testBit_or, show X / 2 ^ (m % 64) = shr64 X (m % 64) from rfl, shr64_bit, shl64_bit]
      rw [decide_eq_true hk, Bool.and_true]
      rcases Nat.lt_or_ge (m % 64 + k) 64 with h3 | h3
      · rw [(hbx.1 h3).1, (hbx.1 h3).2, HX.out]
        simp [show ¬ 64 - m % 64 ≤ k by omega, Nat.add_comm]
      · rw [(hbx.2 h3 (by omega)).1, (hbx.2 h3 (by omega)).2, HY.out, bit_lt HXX.out _ (by omega)]
        rw [Bool.false_or, decide_eq_true (show k < 64 by omega), decide_eq_true (show 64 - m % 64 ≤ k by omega), Bool.true_and, Bool.true_and, Int.toNat_natCast]
        congr 1
        omega
  · have hd : decide (64 < (m : Int) % 64 + (width : Int)) = false := by simp; omega
    go_enter Try.func89, Try.ntmps89
    go_wp2_with fail
    go_quiet (fail)
    go_wp2_with fail
    go_ret
    refine ⟨(X / 2 ^ (m % 64)) &&& (2 ^ width - 1), ?_, and_mask_lt _ _, fun k hk => ?_, (by first | exact ⟨⟨_, rfl⟩⟩ | exact Qt.drewN hq0 _ | exact hq0)⟩
    · show Ending.returned (Value.int _ (wrap64 (bits .and .u64 ((X : Int) / 2 ^ (m % 64)) _))) = _
      rw [mask_run _ h2, shr64_run X (m % 64)]
      exact congrArg (fun z => Ending.returned (Value.int .i64 z)) (get_run _ _ (shr64_lt X (m % 64) HXX.out) h2)
    · have hbx := HQ.out k
      unfold wbit
      rw [Nat.testBit_and, mask_bit, show X / 2 ^ (m % 64) = shr64 X (m % 64) from rfl, shr64_bit, decide_eq_true hk, Bool.and_true]
      rw [(hbx.1 (by omega)).1, (hbx.1 (by omega)).2, HX.out]
      simp [Nat.add_comm]
end Go.Proofs.Ytneliajeokajbaa
