/- The document's varint: the walks of Put, Signed. -/
import Derived.Test.YthnkebihpmggbaaVarPut
namespace Go.Proofs.Ythnkebihpmggbaa
open Go.RowKit
set_option maxRecDepth 100000

set_option maxHeartbeats 1000000 in
theorem ref2Put_calls (n : Nat) (w : World) (hn : n < 18446744073709551616) :
    Calls Try.prog 21 #[.int .u64 n] w (RetOwn w 5 .u8 (vput n)) := by
  have hl := vput_len10 n hn
  go_enter Try.func21, Try.ntmps21
  go_wp2_with fail
  go_loopw [0, 3, 4] (fun i o _ wr => ∃ (m : Nat) (d : List Int), i = .int .u64 m ∧ m ≤ n ∧ Own wr w.heap.size 5 .u8 o d ∧ Hid (vput n = d ++ vput m) ∧ Up w wr) (fun i _ _ _ => (intOf i).toNat)
  case atStart => exact ⟨n, [], rfl, Nat.le_refl _, Own.nil _ _ _ _, Lib.hid rfl, Up.refl _⟩
  case round =>
    obtain ⟨m, d, rfl, hm, ho, HD, hu⟩ := hrel
    have hmx : m < 18446744073709551616 := by omega
    have hsz := hu.size
    obtain ⟨A', c', rfl, hrd'⟩ := ho.rd
    have HDL := Lib.hid (show d.length ≤ 10 by have := congrArg List.length HD.out; rw [List.length_append] at this; omega)
    have hlo := ho.lt
    have HM := Lib.hid (show ((m / 128 : Nat) : Int) = (m : Int) / 128 by omega)
    by_cases h128 : 128 ≤ m
    · have HV := Lib.hid (vput_high m h128)
      have hq : ¬ ((m : Int) / 128 = 0) := by omega
      have HZ := Lib.hid (show ((m % 128 + 128 : Nat) : Int) = (m : Int) % 128 + 128 by omega)
      have HB := Lib.hid (InK.of_u8 (x := (m : Int) % 128 + 128) (by omega) (by omega))
      go_wp2_with (refine wpl_push_int (t := 23) w.heap.size 5 .u8 1 Try.underlying23 infoU8 _ d _ rfl HB.out (fun _ => rfl) (fun _ => rfl) ho (by have := HDL.out; omega) (by decide) (by omega) ?_; intro v1 w1 hv1 hu1)
      go_roundw
      case rel =>
        refine ⟨m / 128, _, by rw [HM.out], by omega, hv1, Lib.hid ?_, hu.thenx hu1 (fun i hi e => by have := (hlo i e).1; omega)⟩
        rw [HD.out, HV.out, HZ.out]; simp
      case measure => simp [intOf]; omega
    · have HV := Lib.hid (vput_low m (by omega))
      have hq : (m : Int) / 128 = 0 := by omega
      have hq2 : (m : Int) % 128 = (m : Int) := by omega
      go_wp2_with (refine wpl_push_int (t := 23) w.heap.size 5 .u8 1 Try.underlying23 infoU8 _ d m rfl (InK.of_u8 (by omega) (by omega)) (fun _ => rfl) (fun _ => rfl) ho (by have := HDL.out; omega) (by decide) (by omega) ?_; intro v1 w1 hv1 hu1)
      go_ret
      rw [HD.out, HV.out]
      exact RetOwn.of hv1 (hu.thenx hu1 (fun i hi e => by have := (hlo i e).1; omega))

set_option maxHeartbeats 400000 in
theorem ref2Signed_calls (x : Int) (w : World) (hx : InK .i64 x) :
    Calls Try.prog 22 #[.int .i64 x] w fun e w' => e = .returned (.int .u64 (zig x)) ∧ w = w' := by
  have hx2 := hx.i64
  by_cases h0 : 0 ≤ x
  · obtain ⟨m, rfl⟩ := Int.eq_ofNat_of_zero_le h0
    have HZ := Lib.hid (show ((zig m : Nat) : Int) = 2 * (m : Int) by unfold zig; rw [if_pos h0]; omega)
    go_enter Try.func22, Try.ntmps22
    go_wp2_with fail
    go_ret
    rw [HZ.out]
    exact ⟨rfl, rfl⟩
  · obtain ⟨m, hm⟩ := Int.eq_ofNat_of_zero_le (show 0 ≤ -(x + 1) by omega)
    have HZ := Lib.hid (show ((zig x : Nat) : Int) = 2 * (m : Int) + 1 by unfold zig; rw [if_neg (by omega)]; omega)
    go_enter Try.func22, Try.ntmps22
    go_wp2_with fail
    go_ret
    rw [HZ.out]
    exact ⟨rfl, rfl⟩
end Go.Proofs.Ythnkebihpmggbaa
