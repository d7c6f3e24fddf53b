/- The chapter's example holds: the walk of incipitlaw01.known. -/
import Derived.Test.YthnkebihpmggbaaCrcFew
namespace Go.Proofs.Ythnkebihpmggbaa
open Go.RowKit
set_option maxRecDepth 100000

theorem crc_123456789 : CrcPlain.crc [49, 50, 51, 52, 53, 54, 55, 56, 57] = 3808858755 := by decide +kernel

set_option maxHeartbeats 400000 in
theorem crcKnown_calls (w : World) : Calls Try.prog 12 #[] w fun e w' => e = .returned (.bool true) ∧ Up w w' := by
  have kc := fun (w : World) (C : Array Value) (n c : Nat) => Lib.run_convert_bytes_const (P := Try.prog) w 23 5 C n c Try.underlying23 Try.underlying5
  go_enter Try.func12, Try.ntmps12
  go_wp2_with fail
  have hr : Rd ((w.alloc (.cells #[.int .u8 49, .int .u8 50, .int .u8 51, .int .u8 52, .int .u8 53, .int .u8 54, .int .u8 55, .int .u8 56, .int .u8 57] 5 (9, 10))).alloc (.cells #[.slice (some ⟨w.heap.size, 0, none⟩) 9 9] 23)) .u8 (some ⟨w.heap.size, 0, none⟩) 9 [49, 50, 51, 52, 53, 54, 55, 56, 57] :=
    Rd.block _ (heap_alloc2_old w _ _) (by simp) rfl (by simp) (fun x hx => InK.of_u8 (by simp at hx; omega) (by simp at hx; omega))
  refine (crcSum_calls _ 1 [[49, 50, 51, 52, 53, 54, 55, 56, 57]] _ (RdL.one rfl ?_ rfl hr) (by simp)).mono ?_
  · rw [cell_of_row _ _ 0 _ _ (0, 0) (heap_alloc2_new w _ _)]
    rfl
  rintro e w1 ⟨rfl, hu1⟩
  have e1 : CrcPlain.crc [49, 50, 51, 52, 53, 54, 55, 56, 57] = 3808858755 := crc_123456789
  have e2 : CrcPlain.crc [] = 0 := CrcPlain.crc_nil
  go_wp2_with (go_at_call 13; refine (crcSum_calls none 0 [] _ (RdL.nil _ _) (by simp)).mono ?_; rintro e w2 ⟨rfl, hu2⟩)
  go_ret
  exact ⟨rfl, (((Up.refl w).alloc _).alloc _).trans (hu1.trans hu2)⟩
end Go.Proofs.Ythnkebihpmggbaa
