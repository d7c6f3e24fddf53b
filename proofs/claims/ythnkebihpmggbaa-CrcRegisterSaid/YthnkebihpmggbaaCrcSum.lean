/- The program's check sum: Register.Sum, Len; crc.Sum. -/
import Derived.Test.YthnkebihpmggbaaCrcWalk
namespace Go.Proofs.Ythnkebihpmggbaa
open Go.RowKit
set_option maxRecDepth 100000

set_option maxHeartbeats 400000 in
theorem crcValue_calls (b : Int) (w : World) : Calls Try.prog 41 #[.int .u32 b] w fun e w' => e = .returned (.int .u32 b) ∧ w = w' := by
  go_enter Try.func41, Try.ntmps41
  go_wp2
  go_ret
  exact ⟨rfl, rfl⟩

set_option maxHeartbeats 400000 in
theorem regSum_nil (w : World) : Calls Try.prog 16 #[.pointer none] w fun e w' => e = .returned (.int .u32 0) ∧ w = w' := by
  go_enter Try.func16, Try.ntmps16
  go_wp2
  go_ret
  exact ⟨rfl, rfl⟩

set_option maxHeartbeats 400000 in
theorem regSum_calls (g B n : Nat) (w : World) (hg : Reg w g B n) : Calls Try.prog 16 #[.pointer (some ⟨g, 0, none⟩)] w fun e w' => e = .returned (.int .u32 B) ∧ w = w' := by
  have c0 : w.cell? ⟨g, 0, none⟩ = some (.int .u32 B) := Blk.cell hg 0
  go_enter Try.func16, Try.ntmps16
  go_wp2_with (go_at_call 41; refine (crcValue_calls _ _).mono ?_; rintro e w' ⟨rfl, rfl⟩)
  go_ret
  exact ⟨rfl, rfl⟩

set_option maxHeartbeats 400000 in
theorem regLen_nil (w : World) : Calls Try.prog 17 #[.pointer none] w fun e w' => e = .returned (.int .i64 0) ∧ w = w' := by
  go_enter Try.func17, Try.ntmps17
  go_wp2
  go_ret
  exact ⟨rfl, rfl⟩

set_option maxHeartbeats 400000 in
theorem regLen_calls (g B n : Nat) (w : World) (hg : Reg w g B n) : Calls Try.prog 17 #[.pointer (some ⟨g, 0, none⟩)] w fun e w' => e = .returned (.int .i64 n) ∧ w = w' := by
  have c0 : w.cell? ⟨g, 1, none⟩ = some (.int .i64 n) := Blk.cell hg 1
  go_enter Try.func17, Try.ntmps17
  go_wp2
  go_ret
  exact ⟨rfl, rfl⟩

set_option maxHeartbeats 400000 in
theorem crcSum_calls (A : Option Addr) (c : Nat) (ls : List (List Int)) (w : World) (hl : RdL w .u8 A c ls) (hn : ls.flatten.length ≤ 9223372036854775807) :
    Calls Try.prog 13 #[.slice A ls.length c] w fun e w' => e = .returned (.int .u32 (CrcPlain.crc ls.flatten)) ∧ Up w w' := by
  have hu := (Up.refl w).alloc (.cells #[.int .u32 0, .int .i64 0] 33)
  have hl1 := ((hl.f.up hu).mono (G := fun b => b ≠ w.heap.size) fun b hb => by omega)
  have hr : Reg (w.alloc (.cells #[.int .u32 0, .int .i64 0] 33)) w.heap.size 0 0 := Blk.new _ _ _
  go_enter Try.func13, Try.ntmps13
  go_wp2_with (first
    | (go_at_call 15
       refine (regAdd_calls w.heap.size 0 0 A c ls _ (by omega) hr hl1 (by omega)).mono ?_
       rintro e w1 ⟨rfl, hx, hr1⟩)
    | (go_at_call 16; refine (regSum_calls _ _ _ _ hr1).mono ?_; rintro e w2 ⟨rfl, rfl⟩))
  go_ret
  refine ⟨?_, hu.thenx hx fun i hi e => by omega⟩
  simp [CrcPlain.crc]
theorem crcSum_n {A : Option Addr} {c n : Nat} {ls : List (List Int)} {w : World} (hl : RdL w .u8 A c ls) (hb : ls.flatten.length ≤ 9223372036854775807) (hn : n = ls.length) :
    Calls Try.prog 13 #[.slice A n c] w fun e w' => e = .returned (.int .u32 (CrcPlain.crc ls.flatten)) ∧ Up w w' := by
  subst hn
  exact crcSum_calls A c ls w hl hb
end Go.Proofs.Ythnkebihpmggbaa
