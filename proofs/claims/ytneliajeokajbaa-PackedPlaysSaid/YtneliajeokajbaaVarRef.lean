/- The document's varint: the walks of Put, Signed. -/
import Derived.Test.YtneliajeokajbaaVarPut
namespace Go.Proofs.Ytneliajeokajbaa
open Go.RowKit
set_option maxRecDepth 100000

set_option maxHeartbeats 1000000 in
theorem ref2Put_calls (n : Nat) (w : World) (hn : n < 18446744073709551616) :
    Calls Try.prog 85 #[.int .u64 n] w (RetOwn w 5 .u8 (vput n)) := by
  have hl := vput_len10 n hn
  go_enter Try.func85, Try.ntmps85
  go_wp2_with fail
  go_loopw [0, 3, 4] (fun i o _ wr => ∃ (m : Nat) (d : List Int), i = .int .u64 m ∧ m ≤ n ∧ Own wr w.heap.size 5 .u8 o d ∧ Hid (vput n = d ++ vput m) ∧ Up w wr) (fun i _ _ _ => (intOf i).toNat)
  case atStart => exact ⟨n, [], rfl, Nat.le_refl _, Own.nil _ _ _ _, Lib.hid rfl, Up.refl _⟩
  case round =>
    obtain ⟨m, d, rfl, hm, ho, HD, hu⟩ := hrel
    have hmx : m < 18446744073709551616 := by omega
    have hsz := hu.size
    obtain ⟨A', c', rfl, hrd'⟩ := ho.rd
    have HDL := Lib.hid (show d.length ≤ 10 by have := congrArg List.length HD.out; rw [List.length_append] at this; omega)
    have hlo := ho.lt
    have HM := Lib.hid (show ((m / 128 : Nat) : Int) = (m : Int) / 128 by omega)
    by_cases h128 : 128 ≤ m
    · have HV := Lib.hid (vput_high m h128)
      have hq : ¬ ((m : Int) / 128 = 0) := by omega
      have HZ := Lib.hid (show ((m % 128 + 128 : Nat) : Int) = (m : Int) % 128 + 128 by omega)
      have HB := Lib.hid (InK.of_u8 (x := (m : Int) % 128 + 128) (by omega) (by omega))
      go_wp2_with (refine wpl_push_int (t := 76) w.heap.size 5 .u8 1 Try.underlying76 infoU8 _ d _ rfl HB.out (fun _ => rfl) (fun _ => rfl) ho (by have := HDL.out; omega) (by decide) (by omega) ?_; intro v1 w1 hv1 hu1)
      go_roundw
      case rel =>
        refine ⟨m / 128, _, by rw [HM.out], by omega, hv1, Lib.hid ?_, hu.thenx hu1 (fun i hi e => by have := (hlo i e).1; omega)⟩
        rw [HD.out, HV.out, HZ.out]; simp
      case measure => simp [intOf]; omega
    · have HV := Lib.hid (vput_low m (by omega))
      have hq : (m : Int) / 128 = 0 := by omega
      have hq2 : (m : Int) % 128 = (m : Int) := by omega
      go_wp2_with (refine wpl_push_int (t := 76) w.heap.size 5 .u8 1 Try.underlying76 infoU8 _ d m rfl (InK.of_u8 (by omega) (by omega)) (fun _ => rfl) (fun _ => rfl) ho (by have := HDL.out; omega) (by decide) (by omega) ?_; intro v1 w1 hv1 hu1)
      go_ret
      rw [HD.out, HV.out]
      exact RetOwn.of hv1 (hu.thenx hu1 (fun i hi e => by have := (hlo i e).1; omega))

end Go.Proofs.Ytneliajeokajbaa
