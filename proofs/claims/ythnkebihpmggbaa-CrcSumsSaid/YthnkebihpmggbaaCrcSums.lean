/- CrcSums: the sum of any bytes, cut into any parts, is the document's: the law's walk and its row. -/
import Derived.Test.YthnkebihpmggbaaCrcKnown
namespace Go.Proofs.Ythnkebihpmggbaa
open Go.RowKit
set_option maxRecDepth 100000

set_option maxHeartbeats 400000 in
theorem lawCrcSums_calls (A : Option Addr) (c : Nat) (ls : List (List Int)) (w : World) (hl : RdL w .u8 A c ls) :
    Calls Try.prog 3 #[.slice A ls.length c] w fun e w' => e = .returned (.bool true) ∧ Up w w' := by
  have hf := clip_flat ls
  generalize hcl : clip ls = cl at *
  have HC := Lib.hid hcl
  clear hcl
  go_enter Try.func3, Try.ntmps3
  go_wp2_with fail
  refine (few_calls A c ls w hl).mono ?_
  rintro e w1 ⟨X, cx, Y, cy, rfl, hx, hy, hu1⟩
  rw [HC.out] at hx hy ⊢
  generalize hfl : cl.flatten = fl at *
  have HF := Lib.hid hfl
  clear hfl
  go_wp2_with fail
  refine (crcKnown_calls _).mono ?_
  rintro e w2 ⟨rfl, hu2⟩
  go_wp2_with fail
  refine (crcSum_calls X cx cl _ (hx.up hu2) (by rw [HF.out]; omega)).mono ?_
  rintro e w3 ⟨rfl, hu3⟩
  rw [HF.out]
  have hy3 := hy.up (hu2.trans hu3)
  go_wp2_with fail
  refine (refSum_calls Y cy fl _ hy3).mono ?_
  rintro e w3 ⟨rfl, rfl⟩
  go_wp2_with fail
  have hu4 := (Up.refl w3).alloc (.cells #[.slice Y fl.length cy] 23)
  refine (crcSum_calls _ 1 [fl] _ (RdL.one rfl ((Blk.new w3 _ _).cell 0) rfl (hy3.up hu4)) (by simpa using by omega)).mono ?_
  rintro e w5 ⟨rfl, hu5⟩
  simp only [List.flatten_cons, List.flatten_nil, List.append_nil]
  go_wp2_with (go_at_call 14; refine (refSum_calls Y cy fl _ (hy3.up (hu4.trans hu5))).mono ?_; rintro e w6 ⟨rfl, rfl⟩)
  go_ret
  exact ⟨by simp, hu1.trans (hu2.trans (hu3.trans (hu4.trans hu5)))⟩
end Go.Proofs.Ythnkebihpmggbaa
