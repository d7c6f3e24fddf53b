/- The program's check sum: Register.Sum, Len; crc.Sum. -/
import Derived.Test.YtehdigkjbobndaaCrcWalk
namespace Go.Proofs.Ytehdigkjbobndaa
open Go.RowKit
set_option maxRecDepth 100000

set_option maxHeartbeats 400000 in
theorem crcValue_calls (b : Int) (w : World) : Calls Try.prog 80 #[.int .u32 b] w fun e w' => e = .returned (.int .u32 b) ∧ w = w' := by
  go_enter Try.func80, Try.ntmps80
  go_wp2
  go_ret
  exact ⟨rfl, rfl⟩

set_option maxHeartbeats 400000 in
theorem regSum_nil (w : World) : Calls Try.prog 77 #[.pointer none] w fun e w' => e = .returned (.int .u32 0) ∧ w = w' := by
  go_enter Try.func77, Try.ntmps77
  go_wp2
  go_ret
  exact ⟨rfl, rfl⟩

set_option maxHeartbeats 400000 in
theorem regSum_calls (g B n : Nat) (w : World) (hg : Reg w g B n) : Calls Try.prog 77 #[.pointer (some ⟨g, 0, none⟩)] w fun e w' => e = .returned (.int .u32 B) ∧ w = w' := by
  have c0 : w.cell? ⟨g, 0, none⟩ = some (.int .u32 B) := Blk.cell hg 0
  go_enter Try.func77, Try.ntmps77
  go_wp2_with (go_at_call 80; refine (crcValue_calls _ _).mono ?_; rintro e w' ⟨rfl, rfl⟩)
  go_ret
  exact ⟨rfl, rfl⟩

set_option maxHeartbeats 400000 in
theorem crcSum_calls (A : Option Addr) (c : Nat) (ls : List (List Int)) (w : World) (hl : RdL w .u8 A c ls) (hn : ls.flatten.length ≤ 9223372036854775807) :
    Calls Try.prog 70 #[.slice A ls.length c] w fun e w' => e = .returned (.int .u32 (CrcPlain.crc ls.flatten)) ∧ Up w w' := by
  have hu := (Up.refl w).alloc (.cells #[.int .u32 0, .int .i64 0] 133)
  have hl1 := ((hl.f.up hu).mono (G := fun b => b ≠ w.heap.size) fun b hb => by omega)
  have hr : Reg (w.alloc (.cells #[.int .u32 0, .int .i64 0] 133)) w.heap.size 0 0 := Blk.new _ _ _
  go_enter Try.func70, Try.ntmps70
  go_wp2_with (first
    | (go_at_call 76
       refine (regAdd_calls w.heap.size 0 0 A c ls _ (by omega) hr hl1 (by omega)).mono ?_
       rintro e w1 ⟨rfl, hx, hr1⟩)
    | (go_at_call 77; refine (regSum_calls _ _ _ _ hr1).mono ?_; rintro e w2 ⟨rfl, rfl⟩))
  go_ret
  refine ⟨?_, hu.thenx hx fun i hi e => by omega⟩
  simp [CrcPlain.crc]
theorem crcSum_n {A : Option Addr} {c n : Nat} {ls : List (List Int)} {w : World} (hl : RdL w .u8 A c ls) (hb : ls.flatten.length ≤ 9223372036854775807) (hn : n = ls.length) :
    Calls Try.prog 70 #[.slice A n c] w fun e w' => e = .returned (.int .u32 (CrcPlain.crc ls.flatten)) ∧ Up w w' := by
  subst hn
  exact crcSum_calls A c ls w hl hb
end Go.Proofs.Ytehdigkjbobndaa
