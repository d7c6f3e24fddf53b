/- Several texts in one: PkNil, PkKnown. -/
import Derived.Test.YtneliajeokajbaaPkNew
import Derived.Test.YtneliajeokajbaaPkDoc
import Derived.Test.YtneliajeokajbaaVarTM
import Derived.Test.YtneliajeokajbaaAlphaKnown
/- Layer 12: a nil array's methods. -/
namespace Go.Proofs.Ytneliajeokajbaa
open Go.RowKit
set_option maxRecDepth 100000

theorem packedAt_nil (n : Int) (w : World) : Calls Try.prog 48 #[.pointer none, .int .i64 n] w fun e w' => e = .returned (.tuple #[.int .i64 0, .int .i64 11]) ∧ w = w' := by
  go_enter Try.func48, Try.ntmps48
  go_wp2
  go_ret2
  exact ⟨rfl, rfl⟩
theorem packedSet_nil (i n : Int) (w : World) : Calls Try.prog 46 #[.pointer none, .int .i64 i, .int .i64 n] w fun e w' => e = .returned (.int .i64 11) ∧ w = w' := by
  go_enter Try.func46, Try.ntmps46
  go_wp2
  go_ret
  exact ⟨rfl, rfl⟩
theorem packedAdd_nil (A : Option Addr) (n c : Nat) (w : World) : Calls Try.prog 47 #[.pointer none, .slice A n c] w fun e w' => e = .returned (.int .i64 11) ∧ w = w' := by
  go_enter Try.func47, Try.ntmps47
  go_wp2
  go_ret
  exact ⟨rfl, rfl⟩
theorem packedLen_nil (w : World) : Calls Try.prog 49 #[.pointer none] w fun e w' => e = .returned (.int .i64 0) ∧ w = w' := by
  go_enter Try.func49, Try.ntmps49
  go_wp2
  go_ret
  exact ⟨rfl, rfl⟩
theorem packedWidthM_nil (w : World) : Calls Try.prog 50 #[.pointer none] w fun e w' => e = .returned (.int .i64 0) ∧ w = w' := by
  go_enter Try.func50, Try.ntmps50
  go_wp2
  go_ret
  exact ⟨rfl, rfl⟩
theorem packedBytes_nil (w : World) : Calls Try.prog 52 #[.pointer none] w fun e w' => e = .returned (.slice none 0 0) ∧ w = w' := by
  go_enter Try.func52, Try.ntmps52
  go_wp2
  go_ret
  exact ⟨rfl, rfl⟩
theorem packedCopy_nil (w : World) : Calls Try.prog 43 #[.pointer none] w fun e w' => e = .returned (.pointer none) ∧ w = w' := by
  go_enter Try.func43, Try.ntmps43
  go_wp2
  go_ret
  exact ⟨rfl, rfl⟩
theorem packedSame_nil (w : World) : Calls Try.prog 45 #[.pointer none, .pointer none] w fun e w' => e = .returned (.bool true) ∧ w = w' := by
  go_enter Try.func45, Try.ntmps45
  go_wp2
  go_ret
  exact ⟨rfl, rfl⟩
theorem packedAll_nil (w : World) : Calls Try.prog 51 #[.pointer none] w fun e w' => e = .returned (.slice none 0 0) ∧ w = w' := by
  go_enter Try.func51, Try.ntmps51
  go_wp2_with fail
  refine (packedLen_nil w).mono ?_
  rintro e w' ⟨rfl, rfl⟩
  go_wp2_with fail
  refine wp_loop_rounds 1 ?_
  rw [rounds_succ]
  go_wp2_with fail
  go_ret
  exact ⟨rfl, rfl⟩
end Go.Proofs.Ytneliajeokajbaa

/- Layer 12: the chapter's example, and the law of a nil array. -/
namespace Go.Proofs.Ytneliajeokajbaa
open Go.RowKit
set_option maxRecDepth 100000

theorem known12_fit : fitB 3 [5, 1, 7] = true := by decide
set_option maxHeartbeats 1000000 in
theorem law12known_calls (w : World) : Calls Try.prog 41 #[] w fun e w' => e = .returned (.bool true) ∧ Up w w' := by
  have HF := Lib.hid known12_fit
  go_enter Try.func41, Try.ntmps41
  go_wp2_with fail
  have hA : Up w (w.alloc (.cells #[.int .i64 5, .int .i64 1, .int .i64 7] 3)) := (Up.refl _).alloc _
  have hr0 : Rd (w.alloc (.cells #[.int .i64 5, .int .i64 1, .int .i64 7] 3)) .i64 (some ⟨w.heap.size, 0, none⟩) 3 [5, 1, 7] := rd_lit w 3 .i64 [5, 1, 7] (by simp) (wf_all (by decide)) _ rfl 3 rfl
  generalize (w.alloc (.cells #[.int .i64 5, .int .i64 1, .int .i64 7] 3)) = w1 at *
  refine (packedNew_calls 3 (some ⟨w.heap.size, 0, none⟩) 3 [5, 1, 7] w1 hr0).mono ?_
  rintro e w2 ⟨hu2, hp⟩
  rcases hp with ⟨h, _⟩ | ⟨_, h, _⟩ | ⟨_, _, h, _⟩ | ⟨_, _, _, g, ws, rfl, hg, hpa, hok⟩
  · exact absurd h (by decide)
  · exact absurd (HF.out.symm.trans h) (by decide)
  · exact absurd h (by decide)
  · have hok : PkOk 3 3 ws [5, 1, 7] := hok
    have hpa : PArr w2 g w1.heap.size 3 3 ws := hpa
    go_wp2_with fail
    refine (packedBytes_calls g w1.heap.size 3 3 ws [5, 1, 7] w2 hpa hok (by omega) (by omega) (by omega)).mono ?_
    rintro e w3 ⟨v3, rfl, hv3, hu3⟩
    rw [hok.bytes] at hv3
    obtain ⟨B3, c3, rfl, hr3⟩ := hv3.rd
    have HD := Lib.hid known12_bytes
    generalize docBytes 3 [5, 1, 7] = D at *
    go_wp2_with fail
    have hA4 : Up w3 (w3.alloc (.cells #[.int .u8 3, .int .u8 3, .int .u8 205, .int .u8 1] 5)) := (Up.refl _).alloc _
    have hr4 : Rd (w3.alloc (.cells #[.int .u8 3, .int .u8 3, .int .u8 205, .int .u8 1] 5)) .u8 (some ⟨w3.heap.size, 0, none⟩) 4 [3, 3, 205, 1] := rd_lit w3 5 .u8 [3, 3, 205, 1] (by simp) (wf_all8 (by decide)) _ rfl 4 rfl
    refine (refSame_eq (hr3.up hA4) hr4 rfl rfl HD.out).mono ?_
    rintro e w5 ⟨rfl, hq5⟩
    go_wp2_with fail
    go_ret
    exact ⟨rfl, hA.trans (hu2.trans (hu3.trans (hA4.trans hq5.up)))⟩
end Go.Proofs.Ytneliajeokajbaa
