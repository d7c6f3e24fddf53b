/- AlphaNil: the walk of the law. -/
import Derived.Test.YtneliajeokajbaaAlphaTexts
namespace Go.Proofs.Ytneliajeokajbaa
open Go.RowKit
set_option maxRecDepth 100000

theorem alphaCode_nil (n : Int) (w : World) : Calls Try.prog 35 #[.pointer none, .int .i64 n] w fun e w' => e = .returned (.tuple #[.int .i64 0, .int .i64 11]) ∧ w = w' := by
  go_enter Try.func35, Try.ntmps35
  go_wp2
  go_ret2
  exact ⟨rfl, rfl⟩
theorem alphaSymbol_nil (n : Int) (w : World) : Calls Try.prog 34 #[.pointer none, .int .i64 n] w fun e w' => e = .returned (.tuple #[.int .i64 0, .int .i64 11]) ∧ w = w' := by
  go_enter Try.func34, Try.ntmps34
  go_wp2
  go_ret2
  exact ⟨rfl, rfl⟩
theorem alphaC_nil (n : Int) (w : World) : Calls Try.prog 33 #[.pointer none, .int .i64 n] w fun e w' => e = .returned (.tuple #[.int .i64 0, .int .i64 11]) ∧ w = w' := by
  go_enter Try.func33, Try.ntmps33
  go_wp2
  go_ret2
  exact ⟨rfl, rfl⟩
theorem alphaCodes_nil (A : Option Addr) (n c : Nat) (w : World) : Calls Try.prog 38 #[.pointer none, .slice A n c] w fun e w' => e = .returned (.tuple #[.slice none 0 0, .int .i64 11]) ∧ Up w w' := by
  go_enter Try.func38, Try.ntmps38
  go_wp2
  go_ret2
  exact ⟨rfl, (Up.refl _).alloc _⟩
theorem alphaSymbols_nil (A : Option Addr) (n c : Nat) (w : World) : Calls Try.prog 39 #[.pointer none, .slice A n c] w fun e w' => e = .returned (.tuple #[.slice none 0 0, .int .i64 11]) ∧ Up w w' := by
  go_enter Try.func39, Try.ntmps39
  go_wp2
  go_ret2
  exact ⟨rfl, (Up.refl _).alloc _⟩
theorem alphaSigma_nil (w : World) : Calls Try.prog 31 #[.pointer none] w fun e w' => e = .returned (.int .i64 0) ∧ w = w' := by
  go_enter Try.func31, Try.ntmps31
  go_wp2
  go_ret
  exact ⟨rfl, rfl⟩
theorem alphaLen_nil (w : World) : Calls Try.prog 32 #[.pointer none] w fun e w' => e = .returned (.int .i64 0) ∧ w = w' := by
  go_enter Try.func32, Try.ntmps32
  go_wp2
  go_ret
  exact ⟨rfl, rfl⟩
theorem alphaCount_nil (n : Int) (w : World) : Calls Try.prog 36 #[.pointer none, .int .i64 n] w fun e w' => e = .returned (.int .i64 0) ∧ w = w' := by
  go_enter Try.func36, Try.ntmps36
  go_wp2
  go_ret
  exact ⟨rfl, rfl⟩
theorem alphaBytes_nil (w : World) : Calls Try.prog 61 #[.pointer none] w fun e w' => e = .returned (.slice none 0 0) ∧ w = w' := by
  go_enter Try.func61, Try.ntmps61
  go_wp2
  go_ret
  exact ⟨rfl, rfl⟩

set_option maxHeartbeats 4000000 in
theorem lawAlphaNil_calls (A : Option Addr) (c : Nat) (b0 : List Int) (n : Int) (w : World) (h1 : Rd w .u8 A c b0) (_hn : InK .i64 n) :
    Calls Try.prog 9 #[.slice A b0.length c, .int .i64 n] w fun e w' => e = .returned (.bool true) ∧ Up w w' := by
  obtain ⟨m, hm, hmc, hm2, HM, hrdm⟩ := min_of h1 60
  rw [show ((60 : Nat) : Int) = 60 from rfl] at hm hm2
  have HT := Lib.hid (List.length_take_le 60 b0)
  generalize hs : b0.take 60 = b at *
  clear hs
  have hms : m = b.length := HM.out
  subst hms
  go_enter Try.func9, Try.ntmps9
  go_wp2_with fail
  refine (alphaPattern_calls A c b w hrdm (by have := HT.out; omega)).mono ?_
  rintro e w1 ⟨v1, rfl, hv1, hu1⟩
  obtain ⟨B1, c1, rfl, hr1⟩ := hv1.rd
  have HPL := Lib.hid (show (pattern b).length = b.length by simp [pattern])
  rw [HPL.out]
  have hrb := hrdm.up hu1
  have hne : ((b.length : Int) != (b.length : Int)) = false := by simp
  clear hv1
  go_wp2_with fail
  go_loopw [6] (fun i wr => ∃ k : Nat, k ≤ b.length ∧ i = .int .i64 k ∧ Qt w1 wr) (fun i _ => b.length - (intOf i).toNat)
  case atStart => exact ⟨0, by omega, rfl, Qt.refl _⟩
  case round =>
    obtain ⟨k, hk, rfl, hq⟩ := hrel
    obtain ⟨q, rfl⟩ := hq.out
    by_cases hlt : k < b.length
    · obtain ⟨ad, x, rfl, hc, HX, hxr⟩ := hrb.get k hlt
      obtain ⟨ad2, y, rfl, hc2, HY, _⟩ := hr1.get k (by rw [HPL.out]; exact hlt)
      obtain ⟨hx1, hx2⟩ := hxr.u8
      have hyx : y = x + 2 := by
        rw [← HY.out, ← HX.out]
        simp [pattern, List.getD_eq_getElem?_getD, List.getElem?_eq_getElem hlt]
        omega
      subst hyx
      have hnb : (x + 2 != x + 2) = false := by simp
      have hpl : k < (pattern b).length := by rw [HPL.out]; exact hlt
      go_wp2_with fail
      go_quiet (fail)
      go_wp2_with fail
      go_roundw
      case rel => exact ⟨k + 1, by omega, by simp, (by first | exact ⟨⟨_, rfl⟩⟩ | exact Qt.drewN hq _ | exact hq)⟩
      case measure => simp [intOf]; omega
    · have hU := hu1.trans hq.up
      go_wp2_with fail
      refine (alphaCode_nil n _).mono ?_
      rintro e w2 ⟨rfl, rfl⟩
      go_wp2_with fail
      refine (alphaSymbol_nil n _).mono ?_
      rintro e w2 ⟨rfl, rfl⟩
      go_wp2_with fail
      refine (alphaC_nil n _).mono ?_
      rintro e w2 ⟨rfl, rfl⟩
      go_wp2_with fail
      have hA := hU.alloc (.cells #[.int .i64 n] 3)
      refine (alphaCodes_nil _ _ _ _).mono ?_
      rintro e w2 ⟨rfl, hu2⟩
      have hA2 := (hA.trans hu2).alloc (.cells #[.int .i64 n] 3)
      go_wp2_with fail
      refine (alphaSymbols_nil _ _ _ _).mono ?_
      rintro e w3 ⟨rfl, hu3⟩
      go_wp2_with fail
      refine (law14known_calls w3).mono ?_
      rintro e w4 ⟨rfl, hu4⟩
      go_wp2_with fail
      refine (alphaSigma_nil _).mono ?_
      rintro e w5 ⟨rfl, rfl⟩
      go_wp2_with fail
      refine (alphaCount_nil n _).mono ?_
      rintro e w5 ⟨rfl, rfl⟩
      go_wp2_with fail
      refine (alphaLen_nil _).mono ?_
      rintro e w5 ⟨rfl, rfl⟩
      go_wp2_with fail
      refine (alphaBytes_nil _).mono ?_
      rintro e w5 ⟨rfl, rfl⟩
      go_wp2_with fail
      go_ret
      exact ⟨rfl, hA2.trans (hu3.trans hu4)⟩
end Go.Proofs.Ytneliajeokajbaa
