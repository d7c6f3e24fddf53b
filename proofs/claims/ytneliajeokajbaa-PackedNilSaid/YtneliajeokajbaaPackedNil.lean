/- PackedNil: the walk of the law. -/
import Derived.Test.YtneliajeokajbaaPkKnown
namespace Go.Proofs.Ytneliajeokajbaa
open Go.RowKit
set_option maxRecDepth 100000

set_option maxHeartbeats 4000000 in
theorem lawPackedNil_calls (n : Int) (A : Option Addr) (c : Nat) (m : List Int) (w : World) (_hn : InK .i64 n) (_h1 : Rd w .i64 A c m) :
    Calls Try.prog 7 #[.int .i64 n, .slice A m.length c] w fun e w' => e = .returned (.bool true) ∧ Up w w' := by
  have HS0 := Lib.hid (show sizeOf12 0 1 = 0 by decide)
  have HS1 := Lib.hid (show sizeOf12 32 1 = 0 by decide)
  have HS2 := Lib.hid (show sizeOf12 3 (-1) = 0 by decide)
  have HS3 := Lib.hid (show sizeOf12 3 65537 = 0 by decide)
  go_enter Try.func7, Try.ntmps7
  go_wp2_with fail
  refine (packedAt_nil n w).mono ?_
  rintro e w' ⟨rfl, rfl⟩
  go_wp2_with fail
  refine (law12known_calls w).mono ?_
  rintro e w1 ⟨rfl, hu1⟩
  go_wp2_with fail
  refine (packedSet_nil n 1 _).mono ?_
  rintro e w' ⟨rfl, rfl⟩
  go_wp2_with fail
  refine (packedAdd_nil A m.length c _).mono ?_
  rintro e w' ⟨rfl, rfl⟩
  go_wp2_with fail
  refine (packedLen_nil _).mono ?_
  rintro e w' ⟨rfl, rfl⟩
  go_wp2_with fail
  refine (packedWidthM_nil _).mono ?_
  rintro e w' ⟨rfl, rfl⟩
  go_wp2_with fail
  refine (packedAll_nil _).mono ?_
  rintro e w' ⟨rfl, rfl⟩
  go_wp2_with fail
  refine (packedBytes_nil _).mono ?_
  rintro e w' ⟨rfl, rfl⟩
  go_wp2_with fail
  refine (packedCopy_nil _).mono ?_
  rintro e w' ⟨rfl, rfl⟩
  go_wp2_with fail
  refine (packedSame_nil _).mono ?_
  rintro e w' ⟨rfl, rfl⟩
  go_wp2_with fail
  refine (packedSize_calls 0 1 _).mono ?_
  rw [HS0.out]
  rintro e w' ⟨rfl, rfl⟩
  go_wp2_with fail
  refine (packedSize_calls 32 1 _).mono ?_
  rw [HS1.out]
  rintro e w' ⟨rfl, rfl⟩
  go_wp2_with fail
  refine (packedSize_calls 3 (-1) _).mono ?_
  rw [HS2.out]
  rintro e w' ⟨rfl, rfl⟩
  go_wp2_with fail
  refine (packedSize_calls 3 65537 _).mono ?_
  rw [HS3.out]
  rintro e w' ⟨rfl, rfl⟩
  go_wp2_with fail
  go_ret
  exact ⟨rfl, hu1⟩
end Go.Proofs.Ytneliajeokajbaa
