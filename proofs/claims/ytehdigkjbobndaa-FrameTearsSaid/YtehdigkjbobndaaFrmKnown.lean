/- The chapter's example of layer 4. -/
import Derived.Test.YtehdigkjbobndaaFrmW
import Derived.Lib.SlBytesConst
namespace Go.Proofs.Ytehdigkjbobndaa
open Go.RowKit
set_option maxRecDepth 100000

theorem ab_u8 : ∀ x ∈ [(97 : Int), 98], InK .u8 x := by
  intro x hx
  simp only [List.mem_cons, List.not_mem_nil, or_false] at hx
  exact InK.of_u8 (by omega) (by omega)
theorem known_u8 : ∀ x ∈ [(241 : Int), 2, 1, 0, 0, 0, 5, 0, 2, 0, 97, 98, 0], InK .u8 x := by
  intro x hx
  simp only [List.mem_cons, List.not_mem_nil, or_false] at hx
  exact InK.of_u8 (by omega) (by omega)
set_option maxHeartbeats 1000000 in
theorem frmKnown_calls (w : World) : Calls Try.prog 42 #[] w fun e w' => e = .returned (.bool true) ∧ Up w w' := by
  have hu0 : Up w (w.alloc (.cells #[.int .u8 97, .int .u8 98] 5 (2, 3))) := (Up.refl w).alloc _
  have hr : Rd (w.alloc (.cells #[.int .u8 97, .int .u8 98] 5 (2, 3))) .u8 (some ⟨w.heap.size, 0, none⟩) 2 [97, 98] := Rd.block [97, 98] (Go.heap_alloc_new w _) rfl rfl (by simp) ab_u8
  have HE := Lib.hid (frmEncode_calls 2 1 5 _ _ [97, 98] _ hr ⟨by omega, by omega, by omega, by omega, by omega, by omega, by simp⟩)
  have HL := Lib.hid (frmEnc_len (k := 2) (e := 1) (p := 5) (b := [97, 98]) (by simp))
  have HT := Lib.hid (show (frmEnc 2 1 5 [97, 98]).take 13 = [241, 2, 1, 0, 0, 0, 5, 0, 2, 0, 97, 98, 0] by unfold frmEnc marked; rw [List.take_append_of_le_length (by rw [frmRaw_len (by simp)]; omega)]; rfl)
  generalize frmEnc 2 1 5 [97, 98] = r at *
  have kc := fun (C : Array Value) (n c : Nat) => Lib.run_convert_bytes_const (P := Try.prog) w 22 5 C n c Try.underlying22 Try.underlying5
  go_enter Try.func42, Try.ntmps42
  go_wp2_with fail
  refine HE.out.mono ?_
  rintro e w1 hp
  obtain ⟨v, rfl, hv, hu1⟩ := hp.out
  clear hp
  obtain ⟨B, c, rfl, hrr⟩ := hv.rd
  rw [HL.out]
  have HX := Lib.hid (show Up w w1 from hu0.trans hu1)
  have hcl : 13 ≤ c := by have := hrr.le; have := HL.out; omega
  have hci : (13 : Int) ≤ (c : Int) := by omega
  have hr13 : Rd w1 .u8 B c [241, 2, 1, 0, 0, 0, 5, 0, 2, 0, 97, 98, 0] := HT.out ▸ hrr.take 13
  have hu9 : Up w1 (w1.alloc (.cells #[.int .u8 241, .int .u8 2, .int .u8 1, .int .u8 0, .int .u8 0, .int .u8 0, .int .u8 5, .int .u8 0, .int .u8 2, .int .u8 0, .int .u8 97, .int .u8 98, .int .u8 0] 5)) := (Up.refl w1).alloc _
  have hr9 : Rd (w1.alloc (.cells #[.int .u8 241, .int .u8 2, .int .u8 1, .int .u8 0, .int .u8 0, .int .u8 0, .int .u8 5, .int .u8 0, .int .u8 2, .int .u8 0, .int .u8 97, .int .u8 98, .int .u8 0] 5)) .u8 (some ⟨w1.heap.size, 0, none⟩) 13 [241, 2, 1, 0, 0, 0, 5, 0, 2, 0, 97, 98, 0] := Rd.block _ (Go.heap_alloc_new w1 _) rfl rfl (by simp) known_u8
  have HS := Lib.hid (refSame_n (n := 13) (m := 13) (hr13.up hu9) hr9 rfl rfl)
  rw [decide_eq_true rfl] at HS
  clear hv hrr hr13 hr9
  go_wp2_with fail
  refine HS.out.mono ?_
  rintro e w2 ⟨rfl, hq⟩
  go_wp2_with fail
  go_ret
  exact ⟨rfl, HX.out.trans (hu9.trans hq.up)⟩
end Go.Proofs.Ytehdigkjbobndaa
