/- The document's reading of a number: the walk. -/
import Derived.Test.YthnkebihpmggbaaVarGet
import Derived.Deep.LoopGhost
namespace Go.Proofs.Ythnkebihpmggbaa
open Go.RowKit
set_option maxRecDepth 100000

set_option maxHeartbeats 4000000 in
theorem ref2Get_calls (A : Option Addr) (c a gr : Nat) (l : List Int) (w : World) (h1 : Rd w .u8 A c l) (ha : a ≤ l.length) (hgr : gr < 18446744073709551616) (hb : l.length ≤ 140737488355328) :
    Calls Try.prog 32 #[.slice A l.length c, .int .i64 a, .int .u64 gr] w fun e w' => e = .returned (.tuple #[.int .u64 (vget gr (l.drop a) 0 0).1, .int .i64 ((a : Int) + (vget gr (l.drop a) 0 0).2.1), .int .i64 (vget gr (l.drop a) 0 0).2.2]) ∧ w = w' := by
  generalize hr : vget gr (l.drop a) 0 0 = r
  have HR := Lib.hid hr
  clear hr
  go_enter Try.func32, Try.ntmps32
  go_wp2_with fail
  go_loopw [1, 9, 11, 12, 13, 14] (fun p n _ _ _ _ wr => ∃ k m : Nat, a + k ≤ l.length ∧ k ≤ 10 ∧ p = .int .i64 ((a : Int) + (k : Int)) ∧ n = .int .u64 m ∧ w = wr ∧ m ≤ gr ∧ Hid (r = vget gr (l.drop (a + k)) k m)) (fun p _ _ _ _ _ _ => l.length - (intOf p).toNat)
  case atStart => exact ⟨0, 0, by omega, by omega, by simp, rfl, rfl, by omega, Lib.hid (by rw [← HR.out]; rfl)⟩
  case round =>
    obtain ⟨k, m, hk, hk10, rfl, rfl, rfl, hmg, HG⟩ := hrel
    have hsub : (a : Int) + (k : Int) - (a : Int) = (k : Int) := by omega
    by_cases hlt : a + k < l.length
    · obtain ⟨ad, x, rfl, hcell, HX, hxr⟩ := h1.get (a + k) hlt
      have hx2 := hxr.u8
      obtain ⟨y, rfl⟩ := Int.eq_ofNat_of_zero_le hx2.1
      have HD := Lib.hid (vget_drop l (a + k) hlt HX.out)
      have HG2 : r = vget gr ((y : Int) :: l.drop (a + k + 1)) k m := by rw [HG.out, HD.out]
      have HB : Hid ((9 < k ∨ gr < m + y % 128 * 2 ^ (7 * k) ∨ ((y : Int) = 0 ∧ 0 < k)) → r = (0, k, 3)) := Lib.hid fun h => by rw [HG2]; exact vget_bad _ _ _ _ _ (by simpa using h)
      have HL := Lib.hid fun h h2 => HG2.trans (vget_last gr (l.drop (a + k + 1)) y k m h h2)
      have HN := Lib.hid fun h h2 => HG2.trans (vget_next gr (l.drop (a + k + 1)) y k m h h2)
      clear HG2
      simp only [Int.toNat_natCast] at HL HN
      by_cases h9 : 9 < k
      · have HV := Lib.hid (HB.out (.inl h9))
        go_wp2_with fail
        go_ret3
        rw [HV.out]
        exact ⟨rfl, rfl⟩
      · have HT63 := Lib.hid (show 2 ^ (7 * k) ≤ 9223372036854775808 by
          have := Nat.pow_le_pow_right (n := 2) (by omega) (show 7 * k ≤ 63 by omega)
          have h4 : (2 : Nat) ^ 63 = 9223372036854775808 := by decide
          omega)
        have HT0 := Lib.hid (show 0 < 2 ^ (7 * k) from Nat.two_pow_pos _)
        have hk9 : (k : Int) ≤ 9 := by omega
        go_wp2_with fail
        go_loopw [13, 14] (fun t j wx => ∃ i T : Nat, i ≤ k ∧ j = .int .i64 i ∧ t = .int .u64 T ∧ w = wx ∧ Hid (T = 2 ^ (7 * i))) (fun _ j _ => k - (intOf j).toNat)
        case atStart => exact ⟨0, 1, by omega, rfl, rfl, rfl, Lib.hid rfl⟩
        case round =>
          obtain ⟨i, T, hi, rfl, rfl, rfl, HT⟩ := hrel
          by_cases hik : i < k
          · have HT2 := Lib.hid (show T * 128 = 2 ^ (7 * (i + 1)) by rw [HT.out, show 7 * (i + 1) = 7 * i + 7 by omega, Nat.pow_add])
            have hTb : T * 128 ≤ 9223372036854775808 := by
              rw [HT2.out]
              exact Nat.le_trans (Nat.pow_le_pow_right (by omega) (by omega)) HT63.out
            go_wp2_with fail
            go_roundw
            case rel => exact ⟨i + 1, T * 128, by omega, by simp, by simp, trivial, HT2⟩
            case measure => simp [intOf]; omega
          · have hie : i = k := by omega
            subst hie
            rw [← HT.out] at HB HL HN HT63 HT0
            have hT0 := HT0.out
            clear HT0
            have HQ := Lib.hid (show ((gr : Int) - (m : Int)) / (T : Int) < (y : Int) % 128 ↔ gr < m + y % 128 * T by
              rw [show ((gr : Int) - (m : Int)) / (T : Int) = (((gr - m) / T : Nat) : Int) by rw [Int.natCast_ediv]; congr 1; omega]
              have h5 : (gr - m) / T < y % 128 ↔ gr - m < y % 128 * T := Nat.div_lt_iff_lt_mul hT0
              omega)
            by_cases hbig : gr < m + y % 128 * T
            · have HV := Lib.hid (HB.out (.inr (.inl hbig)))
              have hq := HQ.out.2 hbig
              have hpos : (0 : Int) < (y : Int) % 128 := by
                rcases Nat.eq_zero_or_pos (y % 128) with h | h
                · rw [h] at hbig; omega
                · omega
              clear hbig
              go_wp2_with fail
              all_goals
                (go_ret3
                 rw [HV.out]
                 exact ⟨rfl, rfl⟩)
            · have hq : (y : Int) % 128 ≤ ((gr : Int) - (m : Int)) / (T : Int) := by
                have : ¬ (((gr : Int) - (m : Int)) / (T : Int) < (y : Int) % 128) := fun h => hbig (HQ.out.1 h)
                omega
              have hle : m + y % 128 * T ≤ gr := by omega
              have hv : IntKind.u64.wrap ((m : Int) + IntKind.u64.wrap ((y : Int) % 128 * (T : Int))) = ((m + y % 128 * T : Nat) : Int) := by
                have wr : ∀ z : Int, IntKind.u64.wrap z = z % 18446744073709551616 := fun z => by simp [IntKind.wrap, IntKind.bits, IntKind.signed]
                rw [show ((y : Int) % 128 * (T : Int)) = ((y % 128 * T : Nat) : Int) by push_cast; rfl, wr, wr]
                omega
              have HY0 := Lib.hid (show y = 0 → m + y % 128 * T = m from fun h => by subst h; simp)
              generalize m + y % 128 * T = v at *
              go_wp2_with fail
              all_goals first
                | (go_ret3
                   have hz := HB.out (.inr (.inr ⟨by omega, by omega⟩))
                   rw [hz]
                   exact ⟨rfl, rfl⟩)
                | (go_ret3
                   have hz := HL.out (by omega) (by omega)
                   rw [hz]
                   refine ⟨?_, rfl⟩
                   first
                     | rfl
                     | (rw [HY0.out (by omega)]; rfl))
                | (go_roundw
                   case rel => exact ⟨i + 1, v, by omega, by omega, by simp; omega, rfl, trivial, by omega, HN.out (by omega) (by omega)⟩
                   case measure => simp [intOf]; omega)
    · have HV := Lib.hid (show r = (0, k, 4) by rw [HG.out, List.drop_eq_nil_of_le (by omega)]; rfl)
      go_wp2_with fail
      go_ret3
      rw [HV.out]
      exact ⟨rfl, rfl⟩
end Go.Proofs.Ythnkebihpmggbaa
