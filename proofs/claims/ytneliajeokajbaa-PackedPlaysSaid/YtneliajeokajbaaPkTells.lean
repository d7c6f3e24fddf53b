/- Layer 12: what an array tells. -/
import Derived.Test.YtneliajeokajbaaPkRefB
import Derived.Test.YtneliajeokajbaaPkAllM
import Derived.Test.YtneliajeokajbaaAlpha1
namespace Go.Proofs.Ytneliajeokajbaa
open Go.RowKit
set_option maxRecDepth 100000

theorem PArr.up {w w' : World} {g base W n : Nat} {ws : List Int} (h : PArr w g base W n ws) (hu : Up w w') : PArr w' g base W n ws := by
  obtain ⟨A, c, hb, ho⟩ := h
  exact ⟨A, c, hb.up hu, ho.up hu⟩
theorem docBytes_len (W : Nat) (l : List Int) : (docBytes W l).length = 1 + (vput l.length).length + (W * l.length + 7) / 8 := by
  unfold docBytes
  simp
  omega
set_option maxHeartbeats 4000000 in
theorem tells_calls (g base W : Nat) (ws l : List Int) (B : Option Addr) (d : Nat) (w : World) (ha : PArr w g base W l.length ws) (hk : PkOk W l.length ws l) (h1 : 1 ≤ W) (h2 : W ≤ 31) (hl : l.length ≤ 65536) (hb : Rd w .i64 B d l) :
    Calls Try.prog 44 #[.pointer (some ⟨g, 0, none⟩), .int .i64 W, .slice B l.length d] w fun e w' => e = .returned (.bool true) ∧ Up w w' := by
  have HF := Lib.hid fun x hx => (hk.fit x hx).1
  have HDB := Lib.hid hk.bytes
  have HDL := Lib.hid (docBytes_len W l)
  have hvl := vput_len10 l.length (by omega)
  have hWl : W * l.length ≤ 31 * 65536 := Nat.mul_le_mul h2 hl
  have HSZ := Lib.hid (show sizeOf12 W l.length = (((W * l.length + 7) / 8 : Nat) : Int) by
    unfold sizeOf12
    rw [if_pos ⟨by unfold rightW; rw [decide_eq_true (by omega), decide_eq_true (by omega)]; rfl, by omega, by omega⟩]
    simp)
  have hin : InK .i64 (l.length : Int) := InK.of_i64 (by omega) (by omega)
  go_enter Try.func44, Try.ntmps44
  go_wp2_with fail
  refine (packedLen_calls g base W l.length ws w ha).mono ?_
  rintro e w1 ⟨rfl, rfl⟩
  go_wp2_with fail
  refine (packedWidthM_calls g base W l.length ws w ha).mono ?_
  rintro e w1 ⟨rfl, rfl⟩
  go_wp2_with fail
  refine (packedAll_calls g base W l.length ws l w ha hk h1 h2 hl).mono ?_
  rintro e w1 ⟨v1, rfl, hv1, hu1⟩
  obtain ⟨A1, c1, rfl, hr1⟩ := hv1.rd
  have ha1 := ha.up hu1
  have hb1 := hb.up hu1
  clear hv1 ha hb
  go_wp2_with fail
  refine (ref6Same_eq hr1 hb1 rfl rfl rfl).mono ?_
  rintro e w2 ⟨rfl, hq2⟩
  have ha2 := ha1.up hq2.up
  have hb2 := hb1.up hq2.up
  have hu2 := hu1.trans hq2.up
  clear ha1 hb1 hr1 hu1 hq2
  go_wp2_with fail
  refine (packedBytes_calls g base W l.length ws l w2 ha2 hk h1 h2 hl).mono ?_
  rw [HDB.out]
  rintro e w3 ⟨v3, rfl, hv3, hu3⟩
  have HRB := fun w' hb => Lib.hid (ref12Bytes_calls W h1 h2 B d l w' hb hl HF)
  generalize docBytes W l = D at *
  obtain ⟨A3, c3, rfl, hr3⟩ := hv3.rd
  have hb3 := hb2.up hu3
  have hU3 := hu2.trans hu3
  clear hv3 ha2 hb2 hu2 hu3 hk
  go_wp2_with fail
  refine ((HRB w3 hb3).out).mono ?_
  rintro e w4 ⟨v4, rfl, hv4, hu4⟩
  obtain ⟨A4, c4, rfl, hr4⟩ := hv4.rd
  have hb4 := hb3.up hu4
  have hr34 := hr3.up hu4
  have hU4 := hU3.trans hu4
  clear hv4 hb3 hr3 hU3 hu4
  have HS := Lib.hid (refSame_eq hr34 hr4 rfl rfl rfl)
  clear hr34 hr4
  go_wp2_with fail
  refine (HS.out).mono ?_
  rintro e w5 ⟨rfl, hq5⟩
  have hb5 := hb4.up hq5.up
  have hU5 := hU4.trans hq5.up
  clear hb4 hU4 hq5 HS
  go_wp2_with fail
  refine ((HRB w5 hb5).out).mono ?_
  rintro e w6 ⟨v6, rfl, hv6, hu6⟩
  obtain ⟨A6, c6, rfl, hr6⟩ := hv6.rd
  have hU6 := hU5.trans hu6
  clear hv6 hr6 hb5 hU5 hu6 HRB
  go_wp2_with fail
  refine (packedSize_calls W l.length w6).mono ?_
  rw [HSZ.out]
  rintro e w7 ⟨rfl, rfl⟩
  go_wp2_with fail
  refine (ref2Put_calls l.length w6 (by omega)).mono ?_
  rintro e w8 ⟨v8, rfl, hv8, hu8⟩
  obtain ⟨A8, c8, rfl, hr8⟩ := hv8.rd
  have hU8 := hU6.trans hu8
  have hdn : D.length ≤ 400000 := by have := HDL.out; omega
  have hP : (W : Int) * (l.length : Int) = ((W * l.length : Nat) : Int) := by simp
  have he : ((((W : Int) * (l.length : Int) + 7) / 8) == ((D.length : Int) - 1 - ((vput l.length).length : Int))) = true := by
    have h9 := HDL.out
    rw [beq_iff_eq, hP]
    clear hP HDL HSZ
    generalize W * l.length = P at *
    generalize (vput l.length).length = V at *
    omega
  have hdv : 1 + (vput l.length).length ≤ D.length := by have := HDL.out; omega
  have hdv1 : 1 ≤ D.length := by omega
  have HW := Lib.hid (show wrap64 (wrap64 ((D.length : Int) - 1) - ((vput l.length).length : Int)) = (D.length : Int) - 1 - ((vput l.length).length : Int) by unfold wrap64; omega)
  have HE := Lib.hid he
  clear hv8 hr8 hU6 hu8 hP hWl he
  go_wp2_with fail
  go_ret
  refine ⟨?_, hU8⟩
  show Ending.returned (Value.bool ((((W : Int) * (l.length : Int) + 7) / 8) == wrap64 (wrap64 ((D.length : Int) - 1) - ((vput l.length).length : Int)))) = _
  rw [HW.out, HE.out]
end Go.Proofs.Ytneliajeokajbaa
