-- Written by a program of this session (wip/tools/pp.sh, on the pattern of the kit's print): not typed by hand.
import Derived.Test.YtneliajeokajbaaPExtBx0
import Derived.Test.YtneliajeokajbaaPExtBx2
import Derived.Test.YtneliajeokajbaaPExtBx4
import Derived.Test.YtneliajeokajbaaPExtBx5
import Derived.Test.YtneliajeokajbaaPExtBx6
import Derived.Test.YtneliajeokajbaaPExtBx7
namespace Go.Proofs.Ytneliajeokajbaa.PExtB
set_option maxRecDepth 100000
open Go.RowKit Go.Proofs.YtneliajeokajbaaW.PrintWords Go.Proofs.YtneliajeokajbaaW.PrintLast Go.Proofs.YtneliajeokajbaaW.PrintMore
attribute [local go_sem] max2_int min2_int max_two min_two max_three min_three max_four min_four   -- for this text's walks alone
set_option linter.unusedVariables false
set_option linter.unusedSimpArgs false

/-! ### incipitlaw08_ExtentBytes: function 10 -/
mutual
def incipitlaw08_ExtentBytes.j0 : Nat → List Int → Option (Bool)
 | 0, _ => none
 | k + 1, x1 => (extent_Decode.f k x1).bind fun bt265 => ((varint_GetList.f x1).bind fun bt272 => (if bt272.2.2 = 0 then (if ((bt272.1.length : Int) % 2) = 1 then ((incipitlaw08_known.f k).bind fun t280 => (if t280 = true then (if bt265.2.2 = 3 then (some ((bt265.1.length : Int) == 0)) else (some false)) else (some false))) else (incipitlaw08_ExtentBytes.l0 k bt265.1 bt265.2.1 bt265.2.2 bt272.1 bt272.2.1 ([] : List (S96)) 0)) else ((incipitlaw08_known.f k).bind fun t279 => (if t279 = true then (if bt265.2.2 = bt272.2.2 then (some ((bt265.1.length : Int) == 0)) else (some false)) else (some false)))))
def incipitlaw08_ExtentBytes.l0 : Nat → List (S107) → List Int → Int → List Int → List Int → List (S96) → Int → Option (Bool)
 | 0, _, _, _, _, _, _, _ => none
 | k + 1, x13, x14, x15, x16, x17, x19, x20 => if (wrap64 (x20 + 1)) < (x16.length : Int) then (if 0 ≤ x20 then (if x20 < (x16.length : Int) then (if 0 ≤ (wrap64 (x20 + 1)) then (if x19.length < 8796093022208 then (incipitlaw08_ExtentBytes.l0 k x13 x14 x15 x16 x17 (x19 ++ [(⟨rd x16 x20, rd x16 (wrap64 (x20 + 1))⟩ : S96)]) (wrap64 (x20 + 2))) else (none)) else (none)) else (none)) else (none)) else ((incipitref08_Check.f k x19).bind fun t286 => (if t286 = 0 then ((incipitlaw08_known.f k).bind fun t289 => (if t289 = true then (if x15 = 0 then ((incipitlaw08_Of.f k x13).bind fun t290 => ((incipitref08_Same.f k t290 x19).bind fun t293 => (if t293 = true then ((incipitref01_Same.f k x14 x17).bind fun t294 => (some t294)) else (some false)))) else (some false)) else (some false))) else ((incipitlaw08_known.f k).bind fun t287 => (if t287 = true then ((incipitref08_Check.f k x19).bind fun t288 => (if x15 = t288 then (some ((x13.length : Int) == 0)) else (some false))) else (some false)))))
end
def incipitlaw08_ExtentBytes.f (k : Nat) (l0 : List (S96)) (l1 : List Int) : Option (Bool) := (incipitlaw08_To.f k l0).bind fun t228 => ((incipitlaw08_Of.f k t228).bind fun t231 => (if 0 ≤ (mn (l1.length : Int) 100) then (if (mn (l1.length : Int) 100) ≤ (l1.length : Int) then ((extent_Encode.f k t228).bind fun bt235 => ((incipitref08_Check.f k t231).bind fun t239 => (if bt235.2 = t239 then (if t239 = 0 then ((some (([] : List Int) : List Int)).bind fun y240 => (if y240.length + bt235.1.length < 140737488355328 then ((some (y240 ++ bt235.1 : List Int)).bind fun y243 => (if y243.length + (l1.take ((mn (l1.length : Int) 100) : Int).toNat).length < 140737488355328 then ((extent_Decode.f k (y243 ++ (l1.take ((mn (l1.length : Int) 100) : Int).toNat))).bind fun bt249 => ((incipitref08_Encode.f k t231).bind fun t256 => ((incipitref01_Same.f k bt235.1 t256).bind fun t259 => (if t259 = true then (if bt249.2.2 = 0 then ((incipitlaw08_Of.f k bt249.1).bind fun t260 => ((incipitref08_Same.f k t260 t231).bind fun t263 => (if t263 = true then ((incipitref01_Same.f k bt249.2.1 (l1.take ((mn (l1.length : Int) 100) : Int).toNat)).bind fun t264 => (if t264 = true then (incipitlaw08_ExtentBytes.j0 k (l1.take ((mn (l1.length : Int) 100) : Int).toNat)) else (some false))) else (some false)))) else (some false)) else (some false))))) else (none))) else (none))) else (incipitlaw08_ExtentBytes.j0 k (l1.take ((mn (l1.length : Int) 100) : Int).toNat))) else (some false)))) else (none)) else (none)))
theorem incipitlaw08_ExtentBytes.mono_l : ∀ k, (∀ y0, LeO (incipitlaw08_ExtentBytes.j0 k y0) (incipitlaw08_ExtentBytes.j0 (k + 1) y0)) ∧ (∀ y0 y1 y2 y3 y4 y5 y6, LeO (incipitlaw08_ExtentBytes.l0 k y0 y1 y2 y3 y4 y5 y6) (incipitlaw08_ExtentBytes.l0 (k + 1) y0 y1 y2 y3 y4 y5 y6))
 | 0 => ⟨fun _ r h => by simp [incipitlaw08_ExtentBytes.j0] at h, fun _ _ _ _ _ _ _ r h => by simp [incipitlaw08_ExtentBytes.l0] at h⟩
 | k + 1 => by
  obtain ⟨ih0, ih1⟩ := incipitlaw08_ExtentBytes.mono_l k
  refine ⟨?_, ?_⟩
  ·intro y0
   unfold incipitlaw08_ExtentBytes.j0
   repeat' first
   | (with_reducible exact ih0 _)
   | (with_reducible exact ih1 _ _ _ _ _ _ _)
   | (with_reducible exact extent_Decode.mono _ _)
   | (with_reducible exact extent_Encode.mono _ _)
   | (with_reducible exact incipitlaw08_Of.mono _ _)
   | (with_reducible exact incipitlaw08_To.mono _ _)
   | (with_reducible exact incipitlaw08_known.mono _)
   | (with_reducible exact incipitref01_Same.mono _ _ _)
   | (with_reducible exact incipitref08_Check.mono _ _)
   | (with_reducible exact incipitref08_Encode.mono _ _)
   | (with_reducible exact incipitref08_Same.mono _ _ _)
   | (with_reducible exact LeO.refl _)
   | (with_reducible exact LeO.none _)
   | (with_reducible refine LeO.ite ?_ ?_)
   | (with_reducible refine LeO.bind ?_ (fun _ => ?_))
   | exact ih0 _
   | exact ih1 _ _ _ _ _ _ _
   | exact extent_Decode.mono _ _
   | exact extent_Encode.mono _ _
   | exact incipitlaw08_Of.mono _ _
   | exact incipitlaw08_To.mono _ _
   | exact incipitlaw08_known.mono _
   | exact incipitref01_Same.mono _ _ _
   | exact incipitref08_Check.mono _ _
   | exact incipitref08_Encode.mono _ _
   | exact incipitref08_Same.mono _ _ _
   | exact LeO.none _
   | refine LeO.ite ?_ ?_
   | refine LeO.bind ?_ (fun _ => ?_)
  ·intro y0 y1 y2 y3 y4 y5 y6
   unfold incipitlaw08_ExtentBytes.l0
   repeat' first
   | (with_reducible exact ih0 _)
   | (with_reducible exact ih1 _ _ _ _ _ _ _)
   | (with_reducible exact extent_Decode.mono _ _)
   | (with_reducible exact extent_Encode.mono _ _)
   | (with_reducible exact incipitlaw08_Of.mono _ _)
   | (with_reducible exact incipitlaw08_To.mono _ _)
   | (with_reducible exact incipitlaw08_known.mono _)
   | (with_reducible exact incipitref01_Same.mono _ _ _)
   | (with_reducible exact incipitref08_Check.mono _ _)
   | (with_reducible exact incipitref08_Encode.mono _ _)
   | (with_reducible exact incipitref08_Same.mono _ _ _)
   | (with_reducible exact LeO.refl _)
   | (with_reducible exact LeO.none _)
   | (with_reducible refine LeO.ite ?_ ?_)
   | (with_reducible refine LeO.bind ?_ (fun _ => ?_))
   | exact ih0 _
   | exact ih1 _ _ _ _ _ _ _
   | exact extent_Decode.mono _ _
   | exact extent_Encode.mono _ _
   | exact incipitlaw08_Of.mono _ _
   | exact incipitlaw08_To.mono _ _
   | exact incipitlaw08_known.mono _
   | exact incipitref01_Same.mono _ _ _
   | exact incipitref08_Check.mono _ _
   | exact incipitref08_Encode.mono _ _
   | exact incipitref08_Same.mono _ _ _
   | exact LeO.none _
   | refine LeO.ite ?_ ?_
   | refine LeO.bind ?_ (fun _ => ?_)
theorem incipitlaw08_ExtentBytes.mono : ∀ a0 a1 k, LeO (incipitlaw08_ExtentBytes.f k a0 a1) (incipitlaw08_ExtentBytes.f (k + 1) a0 a1) := by
 intro a0 a1 k
 obtain ⟨ih0, ih1⟩ := incipitlaw08_ExtentBytes.mono_l k
 unfold incipitlaw08_ExtentBytes.f
 repeat' first
   | (with_reducible exact ih0 _)
   | (with_reducible exact ih1 _ _ _ _ _ _ _)
   | (with_reducible exact extent_Decode.mono _ _)
   | (with_reducible exact extent_Encode.mono _ _)
   | (with_reducible exact incipitlaw08_Of.mono _ _)
   | (with_reducible exact incipitlaw08_To.mono _ _)
   | (with_reducible exact incipitlaw08_known.mono _)
   | (with_reducible exact incipitref01_Same.mono _ _ _)
   | (with_reducible exact incipitref08_Check.mono _ _)
   | (with_reducible exact incipitref08_Encode.mono _ _)
   | (with_reducible exact incipitref08_Same.mono _ _ _)
   | (with_reducible exact LeO.refl _)
   | (with_reducible exact LeO.none _)
   | (with_reducible refine LeO.ite ?_ ?_)
   | (with_reducible refine LeO.bind ?_ (fun _ => ?_))
   | exact ih0 _
   | exact ih1 _ _ _ _ _ _ _
   | exact extent_Decode.mono _ _
   | exact extent_Encode.mono _ _
   | exact incipitlaw08_Of.mono _ _
   | exact incipitlaw08_To.mono _ _
   | exact incipitlaw08_known.mono _
   | exact incipitref01_Same.mono _ _ _
   | exact incipitref08_Check.mono _ _
   | exact incipitref08_Encode.mono _ _
   | exact incipitref08_Same.mono _ _ _
   | exact LeO.none _
   | refine LeO.ite ?_ ?_
   | refine LeO.bind ?_ (fun _ => ?_)
def incipitlaw08_ExtentBytes.T22 : Bool × List (List Nat × List Nat) := (true, [([], []), ([], []), ([], []), ([1, 2], [1, 2]), ([3], [3]), ([], []), ([], []), ([6], [6]), ([5, 7], [5, 7]), ([8], [8]), ([4, 9], [4, 9]), ([10], [10]), ([0, 11], [0, 11]), ([12, 12, 0, 1, 2, 3, 4, 5, 6, 7, 8, 9, 10, 11, 12], [0, 12])])
def incipitlaw08_ExtentBytes.B22 : List Nat := [0, 0, 0, 6, 14, 0, 0, 64, 224, 480, 1022, 2046, 4095, 8191]
theorem incipitlaw08_ExtentBytes.tab22 : rtab .any (opsOf Try.f10 22) = incipitlaw08_ExtentBytes.T22 := by kernel_rfl
theorem incipitlaw08_ExtentBytes.bits22 : waitsOk incipitlaw08_ExtentBytes.T22.2 incipitlaw08_ExtentBytes.B22 = true := by kernel_rfl
set_option maxHeartbeats 8000000 in
set_option maxRecDepth 100000 in
theorem incipitlaw08_ExtentBytes.calls (k : Nat) (A0 : Option Addr) (c0 : Nat) (l0 : List (S96)) (A1 : Option Addr) (c1 : Nat) (l1 : List Int) (r : Bool) (w : World) (hr0 : Kd.C k96 w A0 l0.length l0) (hc0 : l0.length ≤ c0) (hr1 : Kd.C (Kd.int .u8) w A1 l1.length l1) (hc1 : l1.length ≤ c1) (h : incipitlaw08_ExtentBytes.f k l0 l1 = some r) (hr_ : r = true) :
  Calls Try.prog 10 #[.slice A0 l0.length c0, .slice A1 l1.length c1] w fun e w' => e = .returned (.bool r) ∧ Below w.heap.size w w' := by
 have hu96 := Try.underlying96
 have HR0 := Aside0.mk hr0
 have HC0 := Aside0.mk hc0
 clear hr0 hc0
 have HR1 := Aside0.mk hr1
 have HC1 := Aside0.mk hc1
 clear hr1 hc1
 have HB := Aside0.mk (Below.refl w.heap.size w)
 have HR_ := Aside0.mk hr_
 clear hr_
 have H : ((incipitlaw08_To.f k l0).bind fun t228 => ((incipitlaw08_Of.f k t228).bind fun t231 => (if 0 ≤ (mn (l1.length : Int) 100) then (if (mn (l1.length : Int) 100) ≤ (l1.length : Int) then ((extent_Encode.f k t228).bind fun bt235 => ((incipitref08_Check.f k t231).bind fun t239 => (if bt235.2 = t239 then (if t239 = 0 then ((some (([] : List Int) : List Int)).bind fun y240 => (if y240.length + bt235.1.length < 140737488355328 then ((some (y240 ++ bt235.1 : List Int)).bind fun y243 => (if y243.length + (l1.take ((mn (l1.length : Int) 100) : Int).toNat).length < 140737488355328 then ((extent_Decode.f k (y243 ++ (l1.take ((mn (l1.length : Int) 100) : Int).toNat))).bind fun bt249 => ((incipitref08_Encode.f k t231).bind fun t256 => ((incipitref01_Same.f k bt235.1 t256).bind fun t259 => (if t259 = true then (if bt249.2.2 = 0 then ((incipitlaw08_Of.f k bt249.1).bind fun t260 => ((incipitref08_Same.f k t260 t231).bind fun t263 => (if t263 = true then ((incipitref01_Same.f k bt249.2.1 (l1.take ((mn (l1.length : Int) 100) : Int).toNat)).bind fun t264 => (if t264 = true then (incipitlaw08_ExtentBytes.j0 k (l1.take ((mn (l1.length : Int) 100) : Int).toNat)) else (some false))) else (some false)))) else (some false)) else (some false))))) else (none))) else (none))) else (incipitlaw08_ExtentBytes.j0 k (l1.take ((mn (l1.length : Int) 100) : Int).toNat))) else (some false)))) else (none)) else (none)))) = some r := h
 clear h
 replace H := Option.bind_eq_some_iff.mp H
 obtain ⟨t228, A30, H⟩ := H
 replace H : ((incipitlaw08_Of.f k t228).bind fun t231 => (if 0 ≤ (mn (l1.length : Int) 100) then (if (mn (l1.length : Int) 100) ≤ (l1.length : Int) then ((extent_Encode.f k t228).bind fun bt235 => ((incipitref08_Check.f k t231).bind fun t239 => (if bt235.2 = t239 then (if t239 = 0 then ((some (([] : List Int) : List Int)).bind fun y240 => (if y240.length + bt235.1.length < 140737488355328 then ((some (y240 ++ bt235.1 : List Int)).bind fun y243 => (if y243.length + (l1.take ((mn (l1.length : Int) 100) : Int).toNat).length < 140737488355328 then ((extent_Decode.f k (y243 ++ (l1.take ((mn (l1.length : Int) 100) : Int).toNat))).bind fun bt249 => ((incipitref08_Encode.f k t231).bind fun t256 => ((incipitref01_Same.f k bt235.1 t256).bind fun t259 => (if t259 = true then (if bt249.2.2 = 0 then ((incipitlaw08_Of.f k bt249.1).bind fun t260 => ((incipitref08_Same.f k t260 t231).bind fun t263 => (if t263 = true then ((incipitref01_Same.f k bt249.2.1 (l1.take ((mn (l1.length : Int) 100) : Int).toNat)).bind fun t264 => (if t264 = true then (incipitlaw08_ExtentBytes.j0 k (l1.take ((mn (l1.length : Int) 100) : Int).toNat)) else (some false))) else (some false)))) else (some false)) else (some false))))) else (none))) else (none))) else (incipitlaw08_ExtentBytes.j0 k (l1.take ((mn (l1.length : Int) 100) : Int).toNat))) else (some false)))) else (none)) else (none))) = some r := H
 have A3 := Aside0.mk A30
 clear A30
 replace H := Option.bind_eq_some_iff.mp H
 obtain ⟨t231, A40, H⟩ := H
 replace H : (if 0 ≤ (mn (l1.length : Int) 100) then (if (mn (l1.length : Int) 100) ≤ (l1.length : Int) then ((extent_Encode.f k t228).bind fun bt235 => ((incipitref08_Check.f k t231).bind fun t239 => (if bt235.2 = t239 then (if t239 = 0 then ((some (([] : List Int) : List Int)).bind fun y240 => (if y240.length + bt235.1.length < 140737488355328 then ((some (y240 ++ bt235.1 : List Int)).bind fun y243 => (if y243.length + (l1.take ((mn (l1.length : Int) 100) : Int).toNat).length < 140737488355328 then ((extent_Decode.f k (y243 ++ (l1.take ((mn (l1.length : Int) 100) : Int).toNat))).bind fun bt249 => ((incipitref08_Encode.f k t231).bind fun t256 => ((incipitref01_Same.f k bt235.1 t256).bind fun t259 => (if t259 = true then (if bt249.2.2 = 0 then ((incipitlaw08_Of.f k bt249.1).bind fun t260 => ((incipitref08_Same.f k t260 t231).bind fun t263 => (if t263 = true then ((incipitref01_Same.f k bt249.2.1 (l1.take ((mn (l1.length : Int) 100) : Int).toNat)).bind fun t264 => (if t264 = true then (incipitlaw08_ExtentBytes.j0 k (l1.take ((mn (l1.length : Int) 100) : Int).toNat)) else (some false))) else (some false)))) else (some false)) else (some false))))) else (none))) else (none))) else (incipitlaw08_ExtentBytes.j0 k (l1.take ((mn (l1.length : Int) 100) : Int).toNat))) else (some false)))) else (none)) else (none)) = some r := H
 have A4 := Aside0.mk A40
 clear A40
 obtain ⟨ji5, hji5⟩ : ∃ j_ : Int, (mn (l1.length : Int) 100) = j_ := ⟨_, rfl⟩
 replace H : (if 0 ≤ (ji5) then (if (ji5) ≤ (l1.length : Int) then ((extent_Encode.f k t228).bind fun bt235 => ((incipitref08_Check.f k t231).bind fun t239 => (if bt235.2 = t239 then (if t239 = 0 then ((some (([] : List Int) : List Int)).bind fun y240 => (if y240.length + bt235.1.length < 140737488355328 then ((some (y240 ++ bt235.1 : List Int)).bind fun y243 => (if y243.length + (l1.take ((ji5) : Int).toNat).length < 140737488355328 then ((extent_Decode.f k (y243 ++ (l1.take ((ji5) : Int).toNat))).bind fun bt249 => ((incipitref08_Encode.f k t231).bind fun t256 => ((incipitref01_Same.f k bt235.1 t256).bind fun t259 => (if t259 = true then (if bt249.2.2 = 0 then ((incipitlaw08_Of.f k bt249.1).bind fun t260 => ((incipitref08_Same.f k t260 t231).bind fun t263 => (if t263 = true then ((incipitref01_Same.f k bt249.2.1 (l1.take ((ji5) : Int).toNat)).bind fun t264 => (if t264 = true then (incipitlaw08_ExtentBytes.j0 k (l1.take ((ji5) : Int).toNat)) else (some false))) else (some false)))) else (some false)) else (some false))))) else (none))) else (none))) else (incipitlaw08_ExtentBytes.j0 k (l1.take ((ji5) : Int).toNat))) else (some false)))) else (none)) else (none)) = some r := by first | (rw [hji5] at H; exact H) | (simp only [hji5] at H ⊢; exact H)
 (try rw [hji5] at A3)
 (try rw [hji5] at A4)
 (try (have hji5h : ji5 ≤ 100 := by (rw [← hji5]; unfold mn; (repeat' split) <;> omega)))
 (try (have hji5g : ji5 ≤ 64 := by omega))
 (try (have hji5l : 0 ≤ ji5 := by (rw [← hji5]; unfold mn; (repeat' split) <;> omega)))
 (try (have hji5m : 0 ≤ ji5 := by omega))
 have hji5_ : (if 100 < (l1.length : Int) then 100 else (l1.length : Int)) = ji5 := hji5
 by_cases c6 : 0 ≤ (ji5)
 ·rw [if_pos c6] at H
  have c6b0 := eq_true c6
  have c6b1 : decide (0 ≤ (ji5)) = true := decide_eq_true c6
  clear c6
  by_cases c7 : (ji5) ≤ (l1.length : Int)
  ·rw [if_pos c7] at H
   have c7b0 := eq_true c7
   have c7b1 : decide ((ji5) ≤ (l1.length : Int)) = true := decide_eq_true c7
   clear c7
   replace H := Option.bind_eq_some_iff.mp H
   obtain ⟨⟨t235, t236⟩, A80, H⟩ := H
   replace H : ((incipitref08_Check.f k t231).bind fun t239 => (if t236 = t239 then (if t239 = 0 then ((some (([] : List Int) : List Int)).bind fun y240 => (if y240.length + t235.length < 140737488355328 then ((some (y240 ++ t235 : List Int)).bind fun y243 => (if y243.length + (l1.take ((ji5) : Int).toNat).length < 140737488355328 then ((extent_Decode.f k (y243 ++ (l1.take ((ji5) : Int).toNat))).bind fun bt249 => ((incipitref08_Encode.f k t231).bind fun t256 => ((incipitref01_Same.f k t235 t256).bind fun t259 => (if t259 = true then (if bt249.2.2 = 0 then ((incipitlaw08_Of.f k bt249.1).bind fun t260 => ((incipitref08_Same.f k t260 t231).bind fun t263 => (if t263 = true then ((incipitref01_Same.f k bt249.2.1 (l1.take ((ji5) : Int).toNat)).bind fun t264 => (if t264 = true then (incipitlaw08_ExtentBytes.j0 k (l1.take ((ji5) : Int).toNat)) else (some false))) else (some false)))) else (some false)) else (some false))))) else (none))) else (none))) else (incipitlaw08_ExtentBytes.j0 k (l1.take ((ji5) : Int).toNat))) else (some false))) = some r := H
   have A8 := Aside0.mk A80
   clear A80
   replace H := Option.bind_eq_some_iff.mp H
   obtain ⟨t239, A90, H⟩ := H
   replace H : (if t236 = t239 then (if t239 = 0 then ((some (([] : List Int) : List Int)).bind fun y240 => (if y240.length + t235.length < 140737488355328 then ((some (y240 ++ t235 : List Int)).bind fun y243 => (if y243.length + (l1.take ((ji5) : Int).toNat).length < 140737488355328 then ((extent_Decode.f k (y243 ++ (l1.take ((ji5) : Int).toNat))).bind fun bt249 => ((incipitref08_Encode.f k t231).bind fun t256 => ((incipitref01_Same.f k t235 t256).bind fun t259 => (if t259 = true then (if bt249.2.2 = 0 then ((incipitlaw08_Of.f k bt249.1).bind fun t260 => ((incipitref08_Same.f k t260 t231).bind fun t263 => (if t263 = true then ((incipitref01_Same.f k bt249.2.1 (l1.take ((ji5) : Int).toNat)).bind fun t264 => (if t264 = true then (incipitlaw08_ExtentBytes.j0 k (l1.take ((ji5) : Int).toNat)) else (some false))) else (some false)))) else (some false)) else (some false))))) else (none))) else (none))) else (incipitlaw08_ExtentBytes.j0 k (l1.take ((ji5) : Int).toNat))) else (some false)) = some r := H
   have A9 := Aside0.mk A90
   clear A90
   by_cases c10 : t236 = t239
   ·rw [if_pos c10] at H
    have c10b0 : (t236 == t239) = true := beq_iff_eq.mpr c10
    have c10b1 : (t236 != t239) = false := bne_eq_false_iff_eq.mpr c10
    clear c10
    have HC11 := Aside0.mk H
    clear H
    go_enter Try.func10, Try.ntmps10
    go_upto_if 41 with (first | ((with_reducible refine gate_callee (f := 54) rfl ?_); refine goesL_ (some 22) rfl rfl Try.func54 (by kernel_rfl) rfl #[.slice A0 l0.length c0] rfl (by (try simp only [List.map_toArray, List.map_cons, List.map_nil]); first | done | rfl | (simp only [List.length_drop, List.length_take]; rfl)) ?_; (with_reducible refine (incipitlaw08_To.calls k _ _ l0 t228 _ ?side1 ?side2 A3.out).mono ?_); (case side1 => repeat (first | exact HR0.out | (with_reducible refine Kd.C_alloc ?_ _) | (with_reducible refine Kd.C_drewN ?_ _) | (with_reducible refine Kd.C_drew ?_))); (case side2 => exact HC0.out); rintro e w12 ⟨v229, rfl, ho0, hb⟩; refine ⟨_, rfl, ?_⟩; have n0_ := Aside0.mk (Kd.R_lower ho0 (below_size (by repeat (first | (with_reducible first | exact HB.out | apply below_alloc | apply pw_below_drewN | apply below_drew1) | exact HB.out)))); have n1_ := Aside0.mk (below_step (by repeat (first | (with_reducible first | exact HB.out | apply below_alloc | apply pw_below_drewN | apply below_drew1) | exact HB.out)) hb); clear HB; have HO230 := n0_; have HB := n1_; clear n0_ n1_; (try clear hb); (try clear hb2); (try clear hk); (try clear hi); (try clear ho0); obtain ⟨Ao13, co13, eo13⟩ := Kd.R_slice HO230.out; subst eo13) | ((with_reducible refine gate_callee (f := 24) rfl ?_); refine goesL_ (some 24) rfl rfl Try.func24 (by kernel_rfl) rfl #[.slice Ao13 t228.length co13] rfl (by (try simp only [List.map_toArray, List.map_cons, List.map_nil]); first | done | rfl | (simp only [List.length_drop, List.length_take]; rfl)) ?_; (with_reducible refine (incipitlaw08_Of.calls k _ _ t228 t231 _ ?side1 ?side2 A4.out).mono ?_); (case side1 => repeat (first | exact (Kd.R_reads' HO230.out).2.2 | (with_reducible refine Kd.C_alloc ?_ _) | (with_reducible refine Kd.C_drewN ?_ _) | (with_reducible refine Kd.C_drew ?_))); (case side2 => exact (Kd.R_reads' HO230.out).2.1); rintro e w14 ⟨v232, rfl, ho0, hb⟩; refine ⟨_, rfl, ?_⟩; have n0_ := Aside0.mk (Kd.R_below (by (with_reducible repeat (first | apply Kd.R_alloc | apply Kd.R_drewN | apply Kd.R_drew)); exact HO230.out) hb); have n1_ := Aside0.mk (Kd.R_lower ho0 (below_size (by repeat (first | (with_reducible first | exact HB.out | apply below_alloc | apply pw_below_drewN | apply below_drew1) | exact HB.out)))); have n2_ := Aside0.mk (below_step (by repeat (first | (with_reducible first | exact HB.out | apply below_alloc | apply pw_below_drewN | apply below_drew1) | exact HB.out)) hb); clear HO230; clear HB; have HO230 := n0_; have HO233 := n1_; have HB := n2_; clear n0_ n1_ n2_; (try clear hb); (try clear hb2); (try clear hk); (try clear hi); (try clear ho0); obtain ⟨i015, hi015, _, hsz15, _⟩ := info_parts info5; obtain ⟨hcut15, hA15, hC15⟩ := print_take_of (P := Try.prog) (Value.int .u8) 0 76 5 .i64 Try.underlying76 hi015 hsz15 A1 c1 l1 (ji5) (of_decide_eq_true (by first | (with_reducible assumption) | assumption)) (of_decide_eq_true (by first | (with_reducible assumption) | assumption)) HC1.out; have HR234 := Aside0.mk (Kd.C_of_reads (h1 := fun _ => rfl) (hA15 _ (Kd.reads_of_C HR1.out))); have HC234 := Aside0.mk hC15; clear hA15 hC15 hi015 hsz15; have hSL15 := Aside0.mk (show (l1.take ((ji5) : Int).toNat).length = (ji5).toNat from (by rw [List.length_take]; have h_ : ((ji5) : Int) ≤ (l1.length : Int) := of_decide_eq_true (by first | (with_reducible assumption) | assumption); omega))) | ((with_reducible refine gate_callee (f := 62) rfl ?_); refine goesL_ (some 32) rfl rfl Try.func62 (by kernel_rfl) rfl #[.slice Ao13 t228.length co13] rfl (by (try simp only [List.map_toArray, List.map_cons, List.map_nil]); first | done | rfl | (simp only [List.length_drop, List.length_take]; rfl)) ?_; (with_reducible refine (extent_Encode.calls k _ _ t228 t235 t236 _ ?side1 ?side2 A8.out).mono ?_); (case side1 => repeat (first | exact (Kd.R_reads' HO230.out).2.2 | (with_reducible refine Kd.C_alloc ?_ _) | (with_reducible refine Kd.C_drewN ?_ _) | (with_reducible refine Kd.C_drew ?_))); (case side2 => exact (Kd.R_reads' HO230.out).2.1); rintro e w16 ⟨v237, rfl, ho0, hb⟩; refine ⟨_, rfl, ?_⟩; have n0_ := Aside0.mk (Kd.R_below (by (with_reducible repeat (first | apply Kd.R_alloc | apply Kd.R_drewN | apply Kd.R_drew)); exact HO230.out) hb); have n1_ := Aside0.mk (Kd.R_below (by (with_reducible repeat (first | apply Kd.R_alloc | apply Kd.R_drewN | apply Kd.R_drew)); exact HO233.out) hb); have n2_ := Aside0.mk (Kd.R_lower ho0 (below_size (by repeat (first | (with_reducible first | exact HB.out | apply below_alloc | apply pw_below_drewN | apply below_drew1) | exact HB.out)))); have n3_ := Aside0.mk (below_step (by repeat (first | (with_reducible first | exact HB.out | apply below_alloc | apply pw_below_drewN | apply below_drew1) | exact HB.out)) hb); clear HO230; clear HO233; clear HB; have HO230 := n0_; have HO233 := n1_; have HO238 := n2_; have HB := n3_; clear n0_ n1_ n2_ n3_; (try clear hb); (try clear hb2); (try clear hk); (try clear hi); (try clear ho0); obtain ⟨Ao17, co17, eo17⟩ := Kd.R_slice HO233.out; subst eo17) | ((with_reducible refine gate_callee (f := 55) rfl ?_); refine goesL_ (some 36) rfl rfl Try.func55 (by kernel_rfl) rfl #[.slice Ao17 t231.length co17] rfl (by (try simp only [List.map_toArray, List.map_cons, List.map_nil]); first | done | rfl | (simp only [List.length_drop, List.length_take]; rfl)) ?_; (with_reducible refine (incipitref08_Check.calls k _ _ t231 t239 _ ?side1 ?side2 A9.out).mono ?_); (case side1 => repeat (first | exact (Kd.R_reads' HO233.out).2.2 | (with_reducible refine Kd.C_alloc ?_ _) | (with_reducible refine Kd.C_drewN ?_ _) | (with_reducible refine Kd.C_drew ?_))); (case side2 => exact (Kd.R_reads' HO233.out).2.1); rintro e w18 ⟨rfl, hb⟩; refine ⟨_, rfl, ?_⟩; have n0_ := Aside0.mk (Kd.R_below (by (with_reducible repeat (first | apply Kd.R_alloc | apply Kd.R_drewN | apply Kd.R_drew)); exact HO230.out) hb); have n1_ := Aside0.mk (Kd.R_below (by (with_reducible repeat (first | apply Kd.R_alloc | apply Kd.R_drewN | apply Kd.R_drew)); exact HO233.out) hb); have n2_ := Aside0.mk (Kd.R_below (by (with_reducible repeat (first | apply Kd.R_alloc | apply Kd.R_drewN | apply Kd.R_drew)); exact HO238.out) hb); have n3_ := Aside0.mk (below_step (by repeat (first | (with_reducible first | exact HB.out | apply below_alloc | apply pw_below_drewN | apply below_drew1) | exact HB.out)) hb); clear HO230; clear HO233; clear HO238; clear HB; have HO230 := n0_; have HO233 := n1_; have HO238 := n2_; have HB := n3_; clear n0_ n1_ n2_ n3_; (try clear hb); (try clear hb2); (try clear hk); (try clear hi)))
    (try simp only [Act.put, List.setIfInBounds_toArray, List.set_cons_zero, List.set_cons_succ])
    go_cut [] (fun wc => ∃ (kq : Nat), Aside0 (incipitlaw08_ExtentBytes.j0 kq (l1.take ((ji5) : Int).toNat) = some r) ∧ Aside0 (kq ≤ k) ∧ Aside0 (Below w.heap.size w wc))
    case first =>
     have H := HC11.out
     clear HC11
     by_cases c19 : t239 = 0
     ·rw [if_pos c19] at H
      have c19b0 : (t239 == 0) = true := beq_iff_eq.mpr c19
      have c19b1 : (t239 != 0) = false := bne_eq_false_iff_eq.mpr c19
      clear c19
      (first | rw [c19b0] | (simp only [i64_w, i32_w]; rw [c19b0]) | skip)
      obtain ⟨y240, hy240⟩ : ∃ y_ : List Int, y_ = (([] : List Int)) := ⟨_, rfl⟩
      replace H : (if y240.length + t235.length < 140737488355328 then ((some (y240 ++ t235 : List Int)).bind fun y243 => (if y243.length + (l1.take ((ji5) : Int).toNat).length < 140737488355328 then ((extent_Decode.f k (y243 ++ (l1.take ((ji5) : Int).toNat))).bind fun bt249 => ((incipitref08_Encode.f k t231).bind fun t256 => ((incipitref01_Same.f k t235 t256).bind fun t259 => (if t259 = true then (if bt249.2.2 = 0 then ((incipitlaw08_Of.f k bt249.1).bind fun t260 => ((incipitref08_Same.f k t260 t231).bind fun t263 => (if t263 = true then ((incipitref01_Same.f k bt249.2.1 (l1.take ((ji5) : Int).toNat)).bind fun t264 => (if t264 = true then (incipitlaw08_ExtentBytes.j0 k (l1.take ((ji5) : Int).toNat)) else (some false))) else (some false)))) else (some false)) else (some false))))) else (none))) else (none)) = some r := by first | (rw [hy240]; with_reducible exact H) | (have H2_ := (Option.bind_some _ _).symm.trans H; rw [hy240]; with_reducible exact H2_) | (have H2_ := (Option.bind_some _ _).symm.trans H; with_reducible exact H2_) | with_reducible exact H | (rw [hy240]; exact H) | exact H
      have Ny240 := Aside0.mk hy240
      clear hy240
      by_cases c20 : y240.length + t235.length < 140737488355328
      ·rw [if_pos c20] at H
       have LMc20 := Aside0.mk c20
       clear c20
       obtain ⟨y243, hy243⟩ : ∃ y_ : List Int, y_ = (y240 ++ t235) := ⟨_, rfl⟩
       replace H : (if y243.length + (l1.take ((ji5) : Int).toNat).length < 140737488355328 then ((extent_Decode.f k (y243 ++ (l1.take ((ji5) : Int).toNat))).bind fun bt249 => ((incipitref08_Encode.f k t231).bind fun t256 => ((incipitref01_Same.f k t235 t256).bind fun t259 => (if t259 = true then (if bt249.2.2 = 0 then ((incipitlaw08_Of.f k bt249.1).bind fun t260 => ((incipitref08_Same.f k t260 t231).bind fun t263 => (if t263 = true then ((incipitref01_Same.f k bt249.2.1 (l1.take ((ji5) : Int).toNat)).bind fun t264 => (if t264 = true then (incipitlaw08_ExtentBytes.j0 k (l1.take ((ji5) : Int).toNat)) else (some false))) else (some false)))) else (some false)) else (some false))))) else (none)) = some r := by first | (rw [hy243]; with_reducible exact H) | (have H2_ := (Option.bind_some _ _).symm.trans H; rw [hy243]; with_reducible exact H2_) | (have H2_ := (Option.bind_some _ _).symm.trans H; with_reducible exact H2_) | with_reducible exact H | (rw [hy243]; exact H) | exact H
       have Ny243 := Aside0.mk hy243
       clear hy243
       by_cases c21 : y243.length + (l1.take ((ji5) : Int).toNat).length < 140737488355328
       ·rw [if_pos c21] at H
        have LMc21 := Aside0.mk c21
        clear c21
        obtain ⟨y246, hy246⟩ : ∃ y_ : List Int, y_ = (y243 ++ (l1.take ((ji5) : Int).toNat)) := ⟨_, rfl⟩
        replace H : ((extent_Decode.f k y246).bind fun bt249 => ((incipitref08_Encode.f k t231).bind fun t256 => ((incipitref01_Same.f k t235 t256).bind fun t259 => (if t259 = true then (if bt249.2.2 = 0 then ((incipitlaw08_Of.f k bt249.1).bind fun t260 => ((incipitref08_Same.f k t260 t231).bind fun t263 => (if t263 = true then ((incipitref01_Same.f k bt249.2.1 (l1.take ((ji5) : Int).toNat)).bind fun t264 => (if t264 = true then (incipitlaw08_ExtentBytes.j0 k (l1.take ((ji5) : Int).toNat)) else (some false))) else (some false)))) else (some false)) else (some false))))) = some r := by first | (rw [hy246]; with_reducible exact H) | (have H2_ := (Option.bind_some _ _).symm.trans H; rw [hy246]; with_reducible exact H2_) | (have H2_ := (Option.bind_some _ _).symm.trans H; with_reducible exact H2_) | with_reducible exact H | (rw [hy246]; exact H) | exact H
        have Ny246 := Aside0.mk hy246
        clear hy246
        replace H := Option.bind_eq_some_iff.mp H
        obtain ⟨⟨t249, t250, t251⟩, A220, H⟩ := H
        replace H : ((incipitref08_Encode.f k t231).bind fun t256 => ((incipitref01_Same.f k t235 t256).bind fun t259 => (if t259 = true then (if t251 = 0 then ((incipitlaw08_Of.f k t249).bind fun t260 => ((incipitref08_Same.f k t260 t231).bind fun t263 => (if t263 = true then ((incipitref01_Same.f k t250 (l1.take ((ji5) : Int).toNat)).bind fun t264 => (if t264 = true then (incipitlaw08_ExtentBytes.j0 k (l1.take ((ji5) : Int).toNat)) else (some false))) else (some false)))) else (some false)) else (some false)))) = some r := H
        have A22 := Aside0.mk A220
        clear A220
        replace H := Option.bind_eq_some_iff.mp H
        obtain ⟨t256, A230, H⟩ := H
        replace H : ((incipitref01_Same.f k t235 t256).bind fun t259 => (if t259 = true then (if t251 = 0 then ((incipitlaw08_Of.f k t249).bind fun t260 => ((incipitref08_Same.f k t260 t231).bind fun t263 => (if t263 = true then ((incipitref01_Same.f k t250 (l1.take ((ji5) : Int).toNat)).bind fun t264 => (if t264 = true then (incipitlaw08_ExtentBytes.j0 k (l1.take ((ji5) : Int).toNat)) else (some false))) else (some false)))) else (some false)) else (some false))) = some r := H
        have A23 := Aside0.mk A230
        clear A230
        replace H := Option.bind_eq_some_iff.mp H
        obtain ⟨t259, A240, H⟩ := H
        replace H : (if t259 = true then (if t251 = 0 then ((incipitlaw08_Of.f k t249).bind fun t260 => ((incipitref08_Same.f k t260 t231).bind fun t263 => (if t263 = true then ((incipitref01_Same.f k t250 (l1.take ((ji5) : Int).toNat)).bind fun t264 => (if t264 = true then (incipitlaw08_ExtentBytes.j0 k (l1.take ((ji5) : Int).toNat)) else (some false))) else (some false)))) else (some false)) else (some false)) = some r := H
        have A24 := Aside0.mk A240
        clear A240
        by_cases c25 : t259 = true
        ·subst c25
         have H1 : (if t251 = 0 then ((incipitlaw08_Of.f k t249).bind fun t260 => ((incipitref08_Same.f k t260 t231).bind fun t263 => (if t263 = true then ((incipitref01_Same.f k t250 (l1.take ((ji5) : Int).toNat)).bind fun t264 => (if t264 = true then (incipitlaw08_ExtentBytes.j0 k (l1.take ((ji5) : Int).toNat)) else (some false))) else (some false)))) else (some false)) = some r := by rw [if_pos rfl] at H; exact H
         clear H
         have H := H1
         clear H1
         by_cases c26 : t251 = 0
         ·rw [if_pos c26] at H
          have c26b0 : (t251 == 0) = true := beq_iff_eq.mpr c26
          have c26b1 : (t251 != 0) = false := bne_eq_false_iff_eq.mpr c26
          clear c26
          replace H := Option.bind_eq_some_iff.mp H
          obtain ⟨t260, A270, H⟩ := H
          replace H : ((incipitref08_Same.f k t260 t231).bind fun t263 => (if t263 = true then ((incipitref01_Same.f k t250 (l1.take ((ji5) : Int).toNat)).bind fun t264 => (if t264 = true then (incipitlaw08_ExtentBytes.j0 k (l1.take ((ji5) : Int).toNat)) else (some false))) else (some false))) = some r := H
          have A27 := Aside0.mk A270
          clear A270
          replace H := Option.bind_eq_some_iff.mp H
          obtain ⟨t263, A280, H⟩ := H
          replace H : (if t263 = true then ((incipitref01_Same.f k t250 (l1.take ((ji5) : Int).toNat)).bind fun t264 => (if t264 = true then (incipitlaw08_ExtentBytes.j0 k (l1.take ((ji5) : Int).toNat)) else (some false))) else (some false)) = some r := H
          have A28 := Aside0.mk A280
          clear A280
          by_cases c29 : t263 = true
          ·subst c29
           have H1 : ((incipitref01_Same.f k t250 (l1.take ((ji5) : Int).toNat)).bind fun t264 => (if t264 = true then (incipitlaw08_ExtentBytes.j0 k (l1.take ((ji5) : Int).toNat)) else (some false))) = some r := by rw [if_pos rfl] at H; exact H
           clear H
           have H := H1
           clear H1
           replace H := Option.bind_eq_some_iff.mp H
           obtain ⟨t264, A300, H⟩ := H
           replace H : (if t264 = true then (incipitlaw08_ExtentBytes.j0 k (l1.take ((ji5) : Int).toNat)) else (some false)) = some r := H
           have A30 := Aside0.mk A300
           clear A300
           by_cases c31 : t264 = true
           ·subst c31
            have H1 : (incipitlaw08_ExtentBytes.j0 k (l1.take ((ji5) : Int).toNat)) = some r := by rw [if_pos rfl] at H; exact H
            clear H
            have H := H1
            clear H1
            have H' := Aside0.mk H
            clear H
            go_wp2_with (first | ((with_reducible refine gate_dst (N := 43) rfl ?_); (try (refine gate_guard (by rfl) ?_; dsimp only)); refine Kd.R_lit (Kd.int .u8) _ 5 ?hg (N := 43) ?hd (xs := ([] : List Int)) (inner := []) (ok := fun _ => True) (okp := fun _ => True) ?hr ?hp (fun _ hk => hk) trivial (Below.refl _ _) (Nat.le_refl _) (by simp) ?_; (case hd => rfl); (case hg => rfl); (case hr => first | (go_simp; done) | (go_simp; rfl)); (case hp => exact (Reps.none _ _)); intro v241 w32 ho33 hb hg_ hnew_; clear hg_ hnew_; (first | rw [← Ny240.out] at ho33 | (simp only [Int.reduceToNat] at ho33; rw [← Ny240.out] at ho33)); have n0_ := Aside0.mk (Kd.R_below (by (with_reducible repeat (first | apply Kd.R_alloc | apply Kd.R_drewN | apply Kd.R_drew)); exact HO230.out) hb); have n1_ := Aside0.mk (Kd.R_below (by (with_reducible repeat (first | apply Kd.R_alloc | apply Kd.R_drewN | apply Kd.R_drew)); exact HO233.out) hb); have n2_ := Aside0.mk (Kd.R_elder' (by (with_reducible repeat (first | apply Kd.R_alloc | apply Kd.R_drewN | apply Kd.R_drew)); exact HO238.out) (Kd.R_base ho33) hb); have n3_ := Aside0.mk (Kd.R_lower (Kd.R_new' ho33 (Kd.R_lt (by (with_reducible repeat (first | apply Kd.R_alloc | apply Kd.R_drewN | apply Kd.R_drew)); exact HO238.out))) (below_size (by repeat (first | (with_reducible first | exact HB.out | apply below_alloc | apply pw_below_drewN | apply below_drew1) | exact HB.out)))); have n4_ := Aside0.mk (below_step (by repeat (first | (with_reducible first | exact HB.out | apply below_alloc | apply pw_below_drewN | apply below_drew1) | exact HB.out)) hb); clear HO230; clear HO233; clear HO238; clear HB; have HO230 := n0_; have HO233 := n1_; have HO238 := n2_; have HO242 := n3_; have HB := n4_; clear n0_ n1_ n2_ n3_ n4_; clear hb ho33; obtain ⟨Ao35, co35, eo35⟩ := Kd.R_slice HO238.out; subst eo35) | ((with_reducible refine gate_builtin (b := .append) (xs := #[.tmp 43, .tmp 44]) rfl ?_); (try (refine gate_guard (by rfl) ?_; dsimp only)); at_builtin; refine Kd.R_append_rows (Kd.int .u8) (w0 := w) w.heap.size rfl (.tmp 43) (.tmp 44) 76 5 (.int .u8 0) 1 rfl Try.underlying76 info5 rfl (by decide) (by omega) v241 y240 t235 _ _ _ (fun k_ => some k_ ≠ (.slice Ao35 t235.length co35 : Value).ownBlock) (fun _ => False) rfl rfl ?aO ?aR (fun _ _ h => h) (fun _ h => h.elim) ?aF ?aB ?aS ?aL ?_; (case aR => repeat (first | exact (Kd.R_reads' HO238.out).2.2 | (with_reducible refine Kd.C_alloc ?_ _) | (with_reducible refine Kd.C_drewN ?_ _) | (with_reducible refine Kd.C_drew ?_))); (case aB => exact (by repeat (first | (with_reducible first | exact HB.out | apply below_alloc | apply pw_below_drewN | apply below_drew1) | exact HB.out))); (case aF => exact (fun k_ hk => Kd.fresh' (Kd.R_lt (by (with_reducible repeat (first | apply Kd.R_alloc | apply Kd.R_drewN | apply Kd.R_drew)); exact HO238.out)) k_ hk)); (case aO => exact (by (with_reducible repeat (first | apply Kd.R_alloc | apply Kd.R_drewN | apply Kd.R_drew)); exact Kd.R_mono HO242.out (fun _ hk => hk.2))); (case aS => exact (below_size (by repeat (first | (with_reducible first | exact HB.out | apply below_alloc | apply pw_below_drewN | apply below_drew1) | exact HB.out)))); (case aL => have := LMc20.out; omega); intro v244 w34 ho hb hg hat; rw [← Ny243.out] at ho; have n0_ := Aside0.mk (Kd.R_over' (by (with_reducible repeat (first | apply Kd.R_alloc | apply Kd.R_drewN | apply Kd.R_drew)); exact HO230.out) (Kd.R_typed (by (with_reducible repeat (first | apply Kd.R_alloc | apply Kd.R_drewN | apply Kd.R_drew)); exact HO242.out)) (by decide) hg); have n1_ := Aside0.mk (Kd.R_over' (by (with_reducible repeat (first | apply Kd.R_alloc | apply Kd.R_drewN | apply Kd.R_drew)); exact HO233.out) (Kd.R_typed (by (with_reducible repeat (first | apply Kd.R_alloc | apply Kd.R_drewN | apply Kd.R_drew)); exact HO242.out)) (by decide) hg); have n2_ := Aside0.mk (Kd.R_after (ok := (fun _ => True)) (by (with_reducible repeat (first | apply Kd.R_alloc | apply Kd.R_drewN | apply Kd.R_drew)); exact HO238.out) hg hat); have n3_ := Aside0.mk (hb); have n4_ := Aside0.mk (ho); clear HO230; clear HO233; clear HO238; clear HB; clear HO242; have HO230 := n0_; have HO233 := n1_; have HO238 := n2_; have HB := n3_; have HO245 := n4_; clear n0_ n1_ n2_ n3_ n4_; clear ho hb hg hat) | ((with_reducible refine gate_builtin (b := .append) (xs := #[.tmp 45, .tmp 46]) rfl ?_); (try (refine gate_guard (by rfl) ?_; dsimp only)); at_builtin; refine Kd.R_append_rows (Kd.int .u8) (w0 := w) w.heap.size rfl (.tmp 45) (.tmp 46) 76 5 (.int .u8 0) 1 rfl Try.underlying76 info5 rfl (by decide) (by omega) v244 y243 (l1.take ((ji5) : Int).toNat) _ _ _ (fun k_ => some k_ ≠ (.slice Ao35 t235.length co35 : Value).ownBlock) (fun _ => False) rfl rfl ?aO ?aR (fun _ _ h => h) (fun _ h => h.elim) ?aF ?aB ?aS ?aL ?_; (case aR => first | (have h_ := (Kd.C_below HR234.out HB.out); rw [hSL15.out] at h_; exact h_) | (rw [← show (l1.take ((ji5) : Int).toNat).length = (ji5).toNat from hSL15.out]; repeat (first | exact (Kd.C_below HR234.out HB.out) | (with_reducible refine Kd.C_alloc ?_ _) | (with_reducible refine Kd.C_drewN ?_ _) | (with_reducible refine Kd.C_drew ?_))) | (repeat (first | exact (Kd.C_below HR234.out HB.out) | (with_reducible refine Kd.C_alloc ?_ _) | (with_reducible refine Kd.C_drewN ?_ _) | (with_reducible refine Kd.C_drew ?_)))); (case aB => exact (by repeat (first | (with_reducible first | exact HB.out | apply below_alloc | apply pw_below_drewN | apply below_drew1) | exact HB.out))); (case aF => exact (fun k_ hk => Kd.fresh' (Kd.R_lt (by (with_reducible repeat (first | apply Kd.R_alloc | apply Kd.R_drewN | apply Kd.R_drew)); exact HO238.out)) k_ hk)); (case aO => exact (by (with_reducible repeat (first | apply Kd.R_alloc | apply Kd.R_drewN | apply Kd.R_drew)); exact HO245.out)); (case aS => exact (below_size (by repeat (first | (with_reducible first | exact HB.out | apply below_alloc | apply pw_below_drewN | apply below_drew1) | exact HB.out)))); (case aL => have := LMc21.out; have hlx_ := (show (l1.take ((ji5) : Int).toNat).length = (ji5).toNat from hSL15.out); omega); intro v247 w36 ho hb hg hat; rw [← Ny246.out] at ho; have n0_ := Aside0.mk (Kd.R_over' (by (with_reducible repeat (first | apply Kd.R_alloc | apply Kd.R_drewN | apply Kd.R_drew)); exact HO230.out) (Kd.R_typed (by (with_reducible repeat (first | apply Kd.R_alloc | apply Kd.R_drewN | apply Kd.R_drew)); exact HO245.out)) (by decide) hg); have n1_ := Aside0.mk (Kd.R_over' (by (with_reducible repeat (first | apply Kd.R_alloc | apply Kd.R_drewN | apply Kd.R_drew)); exact HO233.out) (Kd.R_typed (by (with_reducible repeat (first | apply Kd.R_alloc | apply Kd.R_drewN | apply Kd.R_drew)); exact HO245.out)) (by decide) hg); have n2_ := Aside0.mk (Kd.R_after (ok := (fun _ => True)) (by (with_reducible repeat (first | apply Kd.R_alloc | apply Kd.R_drewN | apply Kd.R_drew)); exact HO238.out) hg hat); have n3_ := Aside0.mk (hb); have n4_ := Aside0.mk (ho); clear HO230; clear HO233; clear HO238; clear HB; clear HO245; have HO230 := n0_; have HO233 := n1_; have HO238 := n2_; have HB := n3_; have HO248 := n4_; clear n0_ n1_ n2_ n3_ n4_; clear ho hb hg hat; obtain ⟨Ao37, co37, eo37⟩ := Kd.R_slice HO248.out; subst eo37) | ((with_reducible refine gate_callee (f := 63) rfl ?_); refine goesL_ (some 48) rfl rfl Try.func63 (by kernel_rfl) rfl #[.slice Ao37 y246.length co37] rfl (by (try simp only [List.map_toArray, List.map_cons, List.map_nil]); first | done | rfl | (simp only [List.length_drop, List.length_take]; rfl)) ?_; (with_reducible refine (extent_Decode.calls k _ _ y246 t249 t250 t251 _ ?side1 ?side2 A22.out).mono ?_); (case side1 => repeat (first | exact (Kd.R_reads' HO248.out).2.2 | (with_reducible refine Kd.C_alloc ?_ _) | (with_reducible refine Kd.C_drewN ?_ _) | (with_reducible refine Kd.C_drew ?_))); (case side2 => exact (Kd.R_reads' HO248.out).2.1); rintro e w38 ⟨v252, v254, rfl, ho0, ho1, hb⟩; refine ⟨_, rfl, ?_⟩; have n0_ := Aside0.mk (Kd.R_elder' (by (with_reducible repeat (first | apply Kd.R_alloc | apply Kd.R_drewN | apply Kd.R_drew)); exact HO230.out) (Kd.R_base ho0) hb); have n1_ := Aside0.mk (Kd.R_below (by (with_reducible repeat (first | apply Kd.R_alloc | apply Kd.R_drewN | apply Kd.R_drew)); exact HO233.out) hb); have n2_ := Aside0.mk (Kd.R_elder' (by (with_reducible repeat (first | apply Kd.R_alloc | apply Kd.R_drewN | apply Kd.R_drew)); exact HO238.out) (Kd.R_base ho1) hb); have n3_ := Aside0.mk (Kd.R_elder' (by (with_reducible repeat (first | apply Kd.R_alloc | apply Kd.R_drewN | apply Kd.R_drew)); exact HO248.out) (Kd.R_base ho1) hb); have n4_ := Aside0.mk (Kd.R_lower (Kd.R_new' ho0 (Kd.R_lt (by (with_reducible repeat (first | apply Kd.R_alloc | apply Kd.R_drewN | apply Kd.R_drew)); exact HO230.out))) (below_size (by repeat (first | (with_reducible first | exact HB.out | apply below_alloc | apply pw_below_drewN | apply below_drew1) | exact HB.out)))); have n5_ := Aside0.mk (Kd.R_lower (Kd.R_new' (Kd.R_new' ho1 (Kd.R_lt (by (with_reducible repeat (first | apply Kd.R_alloc | apply Kd.R_drewN | apply Kd.R_drew)); exact HO238.out))) (Kd.R_lt (by (with_reducible repeat (first | apply Kd.R_alloc | apply Kd.R_drewN | apply Kd.R_drew)); exact HO248.out))) (below_size (by repeat (first | (with_reducible first | exact HB.out | apply below_alloc | apply pw_below_drewN | apply below_drew1) | exact HB.out)))); have n6_ := Aside0.mk (below_step (by repeat (first | (with_reducible first | exact HB.out | apply below_alloc | apply pw_below_drewN | apply below_drew1) | exact HB.out)) hb); clear HO230; clear HO233; clear HO238; clear HO248; clear HB; have HO230 := n0_; have HO233 := n1_; have HO238 := n2_; have HO248 := n3_; have HO253 := n4_; have HO255 := n5_; have HB := n6_; clear n0_ n1_ n2_ n3_ n4_ n5_ n6_; (try clear hb); (try clear hb2); (try clear hk); (try clear hi); (try clear ho0); (try clear ho1)) | ((with_reducible refine gate_callee (f := 65) rfl ?_); refine goesL_ (some 54) rfl rfl Try.func65 (by kernel_rfl) rfl #[.slice Ao17 t231.length co17] rfl (by (try simp only [List.map_toArray, List.map_cons, List.map_nil]); first | done | rfl | (simp only [List.length_drop, List.length_take]; rfl)) ?_; (with_reducible refine (incipitref08_Encode.calls k _ _ t231 t256 _ ?side1 ?side2 A23.out).mono ?_); (case side1 => repeat (first | exact (Kd.R_reads' HO233.out).2.2 | (with_reducible refine Kd.C_alloc ?_ _) | (with_reducible refine Kd.C_drewN ?_ _) | (with_reducible refine Kd.C_drew ?_))); (case side2 => exact (Kd.R_reads' HO233.out).2.1); rintro e w39 ⟨v257, rfl, ho0, hb⟩; refine ⟨_, rfl, ?_⟩; have n0_ := Aside0.mk (Kd.R_below (by (with_reducible repeat (first | apply Kd.R_alloc | apply Kd.R_drewN | apply Kd.R_drew)); exact HO230.out) hb); have n1_ := Aside0.mk (Kd.R_below (by (with_reducible repeat (first | apply Kd.R_alloc | apply Kd.R_drewN | apply Kd.R_drew)); exact HO233.out) hb); have n2_ := Aside0.mk (Kd.R_elder' (by (with_reducible repeat (first | apply Kd.R_alloc | apply Kd.R_drewN | apply Kd.R_drew)); exact HO238.out) (Kd.R_base ho0) hb); have n3_ := Aside0.mk (Kd.R_elder' (by (with_reducible repeat (first | apply Kd.R_alloc | apply Kd.R_drewN | apply Kd.R_drew)); exact HO248.out) (Kd.R_base ho0) hb); have n4_ := Aside0.mk (Kd.R_below (by (with_reducible repeat (first | apply Kd.R_alloc | apply Kd.R_drewN | apply Kd.R_drew)); exact HO253.out) hb); have n5_ := Aside0.mk (Kd.R_elder' (by (with_reducible repeat (first | apply Kd.R_alloc | apply Kd.R_drewN | apply Kd.R_drew)); exact HO255.out) (Kd.R_base ho0) hb); have n6_ := Aside0.mk (Kd.R_lower (Kd.R_new' (Kd.R_new' (Kd.R_new' ho0 (Kd.R_lt (by (with_reducible repeat (first | apply Kd.R_alloc | apply Kd.R_drewN | apply Kd.R_drew)); exact HO238.out))) (Kd.R_lt (by (with_reducible repeat (first | apply Kd.R_alloc | apply Kd.R_drewN | apply Kd.R_drew)); exact HO248.out))) (Kd.R_lt (by (with_reducible repeat (first | apply Kd.R_alloc | apply Kd.R_drewN | apply Kd.R_drew)); exact HO255.out))) (below_size (by repeat (first | (with_reducible first | exact HB.out | apply below_alloc | apply pw_below_drewN | apply below_drew1) | exact HB.out)))); have n7_ := Aside0.mk (below_step (by repeat (first | (with_reducible first | exact HB.out | apply below_alloc | apply pw_below_drewN | apply below_drew1) | exact HB.out)) hb); clear HO230; clear HO233; clear HO238; clear HO248; clear HO253; clear HO255; clear HB; have HO230 := n0_; have HO233 := n1_; have HO238 := n2_; have HO248 := n3_; have HO253 := n4_; have HO255 := n5_; have HO258 := n6_; have HB := n7_; clear n0_ n1_ n2_ n3_ n4_ n5_ n6_ n7_; (try clear hb); (try clear hb2); (try clear hk); (try clear hi); (try clear ho0); obtain ⟨Ao40, co40, eo40⟩ := Kd.R_slice HO258.out; subst eo40) | ((with_reducible refine gate_callee (f := 64) rfl ?_); refine goesL_ (some 55) rfl rfl Try.func64 (by kernel_rfl) rfl #[.slice Ao35 t235.length co35, .slice Ao40 t256.length co40] rfl (by (try simp only [List.map_toArray, List.map_cons, List.map_nil]); first | done | rfl | (simp only [List.length_drop, List.length_take]; rfl)) ?_; (with_reducible refine (incipitref01_Same.calls k _ _ t235 _ _ t256 true _ ?side1 ?side2 ?side3 ?side4 A24.out).mono ?_); (case side1 => repeat (first | exact (Kd.R_reads' HO238.out).2.2 | (with_reducible refine Kd.C_alloc ?_ _) | (with_reducible refine Kd.C_drewN ?_ _) | (with_reducible refine Kd.C_drew ?_))); (case side2 => exact (Kd.R_reads' HO238.out).2.1); (case side3 => repeat (first | exact (Kd.R_reads' HO258.out).2.2 | (with_reducible refine Kd.C_alloc ?_ _) | (with_reducible refine Kd.C_drewN ?_ _) | (with_reducible refine Kd.C_drew ?_))); (case side4 => exact (Kd.R_reads' HO258.out).2.1); rintro e w' ⟨rfl, ⟨nd, rfl⟩⟩; refine ⟨_, rfl, ?_⟩; obtain ⟨Ao41, co41, eo41⟩ := Kd.R_slice HO253.out; subst eo41) | (go_at_call 24; (with_reducible refine (incipitlaw08_Of.calls k _ _ t249 t260 _ ?side1 ?side2 A27.out).mono ?_); (case side1 => repeat (first | exact (Kd.R_reads' HO253.out).2.2 | (with_reducible refine Kd.C_alloc ?_ _) | (with_reducible refine Kd.C_drewN ?_ _) | (with_reducible refine Kd.C_drew ?_))); (case side2 => exact (Kd.R_reads' HO253.out).2.1); rintro e w42 ⟨v261, rfl, ho0, hb⟩; have n0_ := Aside0.mk (Kd.R_below (by (with_reducible repeat (first | apply Kd.R_alloc | apply Kd.R_drewN | apply Kd.R_drew)); exact HO230.out) hb); have n1_ := Aside0.mk (Kd.R_elder' (by (with_reducible repeat (first | apply Kd.R_alloc | apply Kd.R_drewN | apply Kd.R_drew)); exact HO233.out) (Kd.R_base ho0) hb); have n2_ := Aside0.mk (Kd.R_below (by (with_reducible repeat (first | apply Kd.R_alloc | apply Kd.R_drewN | apply Kd.R_drew)); exact HO238.out) hb); have n3_ := Aside0.mk (Kd.R_below (by (with_reducible repeat (first | apply Kd.R_alloc | apply Kd.R_drewN | apply Kd.R_drew)); exact HO248.out) hb); have n4_ := Aside0.mk (Kd.R_below (by (with_reducible repeat (first | apply Kd.R_alloc | apply Kd.R_drewN | apply Kd.R_drew)); exact HO253.out) hb); have n5_ := Aside0.mk (Kd.R_below (by (with_reducible repeat (first | apply Kd.R_alloc | apply Kd.R_drewN | apply Kd.R_drew)); exact HO255.out) hb); have n6_ := Aside0.mk (Kd.R_below (by (with_reducible repeat (first | apply Kd.R_alloc | apply Kd.R_drewN | apply Kd.R_drew)); exact HO258.out) hb); have n7_ := Aside0.mk (Kd.R_lower (Kd.R_new' ho0 (Kd.R_lt (by (with_reducible repeat (first | apply Kd.R_alloc | apply Kd.R_drewN | apply Kd.R_drew)); exact HO233.out))) (below_size (by repeat (first | (with_reducible first | exact HB.out | apply below_alloc | apply pw_below_drewN | apply below_drew1) | exact HB.out)))); have n8_ := Aside0.mk (below_step (by repeat (first | (with_reducible first | exact HB.out | apply below_alloc | apply pw_below_drewN | apply below_drew1) | exact HB.out)) hb); clear HO230; clear HO233; clear HO238; clear HO248; clear HO253; clear HO255; clear HO258; clear HB; have HO230 := n0_; have HO233 := n1_; have HO238 := n2_; have HO248 := n3_; have HO253 := n4_; have HO255 := n5_; have HO258 := n6_; have HO262 := n7_; have HB := n8_; clear n0_ n1_ n2_ n3_ n4_ n5_ n6_ n7_ n8_; (try clear hb); (try clear hb2); (try clear hk); (try clear hi); (try clear ho0); obtain ⟨Ao43, co43, eo43⟩ := Kd.R_slice HO262.out; subst eo43) | (go_at_call 23; (with_reducible refine (incipitref08_Same.calls k _ _ t260 _ _ t231 true _ ?side1 ?side2 ?side3 ?side4 A28.out).mono ?_); (case side1 => repeat (first | exact (Kd.R_reads' HO262.out).2.2 | (with_reducible refine Kd.C_alloc ?_ _) | (with_reducible refine Kd.C_drewN ?_ _) | (with_reducible refine Kd.C_drew ?_))); (case side2 => exact (Kd.R_reads' HO262.out).2.1); (case side3 => repeat (first | exact (Kd.R_reads' HO233.out).2.2 | (with_reducible refine Kd.C_alloc ?_ _) | (with_reducible refine Kd.C_drewN ?_ _) | (with_reducible refine Kd.C_drew ?_))); (case side4 => exact (Kd.R_reads' HO233.out).2.1); rintro e w' ⟨rfl, ⟨nd, rfl⟩⟩; obtain ⟨Ao44, co44, eo44⟩ := Kd.R_slice HO255.out; subst eo44) | (go_at_call 64; refine calls_of_args (args' := #[.slice Ao44 t250.length co44, .slice A1 (l1.take ((ji5) : Int).toNat).length c1]) (by first | (rw [show (l1.take ((ji5) : Int).toNat).length = (ji5).toNat from hSL15.out] <;> rfl) | rfl) ?_; (with_reducible refine (incipitref01_Same.calls k _ _ t250 _ _ (l1.take ((ji5) : Int).toNat) true _ ?side1 ?side2 ?side3 ?side4 A30.out).mono ?_); (case side1 => repeat (first | exact (Kd.R_reads' HO255.out).2.2 | (with_reducible refine Kd.C_alloc ?_ _) | (with_reducible refine Kd.C_drewN ?_ _) | (with_reducible refine Kd.C_drew ?_))); (case side2 => exact (Kd.R_reads' HO255.out).2.1); (case side3 => repeat (first | exact (Kd.C_below HR234.out (by repeat (first | (with_reducible first | exact HB.out | apply below_alloc | apply pw_below_drewN | apply below_drew1) | exact HB.out))) | (with_reducible refine Kd.C_alloc ?_ _) | (with_reducible refine Kd.C_drewN ?_ _) | (with_reducible refine Kd.C_drew ?_))); (case side4 => exact HC234.out); rintro e w' ⟨rfl, ⟨nd, rfl⟩⟩))
            go_meet
            case rel => exact ⟨_, H', ⟨by first | omega | exact Nat.le_refl _⟩, ⟨by repeat (first | (with_reducible first | exact HB.out | apply below_alloc | apply pw_below_drewN | apply below_drew1) | exact HB.out)⟩⟩
           ·replace c31 := Bool.eq_false_iff.mpr c31
            subst c31
            have H1 : (some false) = some r := by rw [if_neg (show ¬ (false = true) by decide)] at H; exact H
            clear H
            have H := H1
            clear H1
            exact absurd (HR_.out ▸ H) (by simp)
          ·replace c29 := Bool.eq_false_iff.mpr c29
           subst c29
           have H1 : (some false) = some r := by rw [if_neg (show ¬ (false = true) by decide)] at H; exact H
           clear H
           have H := H1
           clear H1
           exact absurd (HR_.out ▸ H) (by simp)
         ·rw [if_neg c26] at H
          have c26b0 : (t251 == 0) = false := beq_eq_false_iff_ne.mpr c26
          have c26b1 : (t251 != 0) = true := bne_iff_ne.mpr c26
          exact absurd (HR_.out ▸ H) (by simp)
        ·replace c25 := Bool.eq_false_iff.mpr c25
         subst c25
         have H1 : (some false) = some r := by rw [if_neg (show ¬ (false = true) by decide)] at H; exact H
         clear H
         have H := H1
         clear H1
         exact absurd (HR_.out ▸ H) (by simp)
       ·rw [if_neg c21] at H
        exact absurd H (by simp)
      ·rw [if_neg c20] at H
       exact absurd H (by simp)
     ·rw [if_neg c19] at H
      have c19b0 : (t239 == 0) = false := beq_eq_false_iff_ne.mpr c19
      have c19b1 : (t239 != 0) = true := bne_iff_ne.mpr c19
      (first | rw [c19b0] | (simp only [i64_w, i32_w]; rw [c19b0]) | skip)
      have H' := Aside0.mk H
      clear H
      go_wp2
      go_meet
      case rel => exact ⟨_, H', ⟨by first | omega | exact Nat.le_refl _⟩, ⟨by repeat (first | (with_reducible first | exact HB.out | apply below_alloc | apply pw_below_drewN | apply below_drew1) | exact HB.out)⟩⟩
    case rest =>
     clear HC11
     try clear c1
     try clear c2
     try clear p2
     try clear c3
     try clear c5
     try clear c6
     try clear c6b0
     try clear c6b1
     try clear c7
     try clear c7b0
     try clear c7b1
     try clear c10
     try clear c10b0
     try clear c10b1
     try clear c19
     try clear c19b0
     try clear c19b1
     try clear c20
     try clear c21
     try clear c24
     try clear c25
     try clear c26
     try clear c26b0
     try clear c26b1
     try clear c29
     try clear c31
     obtain ⟨kq, HA, HJ10, HB⟩ := hcut
     cases kq with
     | zero => exact absurd HA.out (by simp [incipitlaw08_ExtentBytes.j0])
     | succ kj10 =>
      have H := HA.out
      clear HA
      simp only [incipitlaw08_ExtentBytes.j0] at H
      replace H := Option.bind_eq_some_iff.mp H
      obtain ⟨⟨t265, t266, t267⟩, A450, H⟩ := H
      replace H : ((varint_GetList.f (l1.take ((ji5) : Int).toNat)).bind fun bt272 => (if bt272.2.2 = 0 then (if ((bt272.1.length : Int) % 2) = 1 then ((incipitlaw08_known.f kj10).bind fun t280 => (if t280 = true then (if t267 = 3 then (some ((t265.length : Int) == 0)) else (some false)) else (some false))) else (incipitlaw08_ExtentBytes.l0 kj10 t265 t266 t267 bt272.1 bt272.2.1 ([] : List (S96)) 0)) else ((incipitlaw08_known.f kj10).bind fun t279 => (if t279 = true then (if t267 = bt272.2.2 then (some ((t265.length : Int) == 0)) else (some false)) else (some false))))) = some r := H
      have A45 := Aside0.mk A450
      clear A450
      replace H := Option.bind_eq_some_iff.mp H
      obtain ⟨⟨t272, t273, t274⟩, A460, H⟩ := H
      replace H : (if t274 = 0 then (if ((t272.length : Int) % 2) = 1 then ((incipitlaw08_known.f kj10).bind fun t280 => (if t280 = true then (if t267 = 3 then (some ((t265.length : Int) == 0)) else (some false)) else (some false))) else (incipitlaw08_ExtentBytes.l0 kj10 t265 t266 t267 t272 t273 ([] : List (S96)) 0)) else ((incipitlaw08_known.f kj10).bind fun t279 => (if t279 = true then (if t267 = t274 then (some ((t265.length : Int) == 0)) else (some false)) else (some false)))) = some r := H
      have A46 := Aside0.mk A460
      clear A460
      by_cases c47 : t274 = 0
      ·rw [if_pos c47] at H
       have c47b0 : (t274 == 0) = true := beq_iff_eq.mpr c47
       have c47b1 : (t274 != 0) = false := bne_eq_false_iff_eq.mpr c47
       clear c47
       by_cases c48 : ((t272.length : Int) % 2) = 1
       ·rw [if_pos c48] at H
        have c48b0 : (((t272.length : Int) % 2) == 1) = true := beq_iff_eq.mpr c48
        have c48b1 : (((t272.length : Int) % 2) != 1) = false := bne_eq_false_iff_eq.mpr c48
        clear c48
        replace H := Option.bind_eq_some_iff.mp H
        obtain ⟨t280, A490, H⟩ := H
        replace H : (if t280 = true then (if t267 = 3 then (some ((t265.length : Int) == 0)) else (some false)) else (some false)) = some r := H
        have A49 := Aside0.mk A490
        clear A490
        by_cases c50 : t280 = true
        ·subst c50
         have H1 : (if t267 = 3 then (some ((t265.length : Int) == 0)) else (some false)) = some r := by rw [if_pos rfl] at H; exact H
         clear H
         have H := H1
         clear H1
         by_cases c51 : t267 = 3
         ·rw [if_pos c51] at H
          have c51b0 : (t267 == 3) = true := beq_iff_eq.mpr c51
          have c51b1 : (t267 != 3) = false := bne_eq_false_iff_eq.mpr c51
          clear c51
          obtain rfl := Option.some.inj H
          go_wp2_with (first | ((with_reducible refine gate_callee (f := 63) rfl ?_); refine goesL_ (some 76) rfl rfl Try.func63 (by kernel_rfl) rfl #[.slice A1 (l1.take ((ji5) : Int).toNat).length c1] rfl (by (try simp only [List.map_toArray, List.map_cons, List.map_nil]); first | done | (rw [show (l1.take ((ji5) : Int).toNat).length = (ji5).toNat from hSL15.out] <;> rfl) | (simp only [hji5]; rfl) | rfl | (simp only [List.length_drop, List.length_take]; rfl)) ?_; (with_reducible refine (extent_Decode.calls kj10 _ _ (l1.take ((ji5) : Int).toNat) t265 t266 t267 _ ?side1 ?side2 A45.out).mono ?_); (case side1 => repeat (first | exact (Kd.C_below HR234.out HB.out) | (with_reducible refine Kd.C_alloc ?_ _) | (with_reducible refine Kd.C_drewN ?_ _) | (with_reducible refine Kd.C_drew ?_))); (case side2 => exact HC234.out); rintro e w52 ⟨v268, v270, rfl, ho0, ho1, hb⟩; refine ⟨_, rfl, ?_⟩; have n0_ := Aside0.mk (Kd.R_lower ho0 (below_size (by repeat (first | (with_reducible first | exact HB.out | apply below_alloc | apply pw_below_drewN | apply below_drew1) | exact HB.out)))); have n1_ := Aside0.mk (Kd.R_lower ho1 (below_size (by repeat (first | (with_reducible first | exact HB.out | apply below_alloc | apply pw_below_drewN | apply below_drew1) | exact HB.out)))); have n2_ := Aside0.mk (below_step (by repeat (first | (with_reducible first | exact HB.out | apply below_alloc | apply pw_below_drewN | apply below_drew1) | exact HB.out)) hb); clear HB; have HO269 := n0_; have HO271 := n1_; have HB := n2_; clear n0_ n1_ n2_; (try clear hb); (try clear hb2); (try clear hk); (try clear hi); (try clear ho0); (try clear ho1)) | ((with_reducible refine gate_callee (f := 66) rfl ?_); refine goesL_ (some 82) rfl rfl Try.func66 (by kernel_rfl) rfl #[.slice A1 (l1.take ((ji5) : Int).toNat).length c1] rfl (by (try simp only [List.map_toArray, List.map_cons, List.map_nil]); first | done | (rw [show (l1.take ((ji5) : Int).toNat).length = (ji5).toNat from hSL15.out] <;> rfl) | (simp only [hji5]; rfl) | rfl | (simp only [List.length_drop, List.length_take]; rfl)) ?_; (with_reducible refine (varint_GetList.calls _ _ (l1.take ((ji5) : Int).toNat) t272 t273 t274 _ ?side1 ?side2 A46.out).mono ?_); (case side1 => repeat (first | exact (Kd.C_below HR234.out HB.out) | (with_reducible refine Kd.C_alloc ?_ _) | (with_reducible refine Kd.C_drewN ?_ _) | (with_reducible refine Kd.C_drew ?_))); (case side2 => exact HC234.out); rintro e w53 ⟨v275, v277, rfl, ho0, ho1, hb⟩; refine ⟨_, rfl, ?_⟩; have n0_ := Aside0.mk (Kd.R_below (by (with_reducible repeat (first | apply Kd.R_alloc | apply Kd.R_drewN | apply Kd.R_drew)); exact HO269.out) hb); have n1_ := Aside0.mk (Kd.R_elder' (by (with_reducible repeat (first | apply Kd.R_alloc | apply Kd.R_drewN | apply Kd.R_drew)); exact HO271.out) (Kd.R_base ho1) hb); have n2_ := Aside0.mk (Kd.R_lower ho0 (below_size (by repeat (first | (with_reducible first | exact HB.out | apply below_alloc | apply pw_below_drewN | apply below_drew1) | exact HB.out)))); have n3_ := Aside0.mk (Kd.R_lower (Kd.R_new' ho1 (Kd.R_lt (by (with_reducible repeat (first | apply Kd.R_alloc | apply Kd.R_drewN | apply Kd.R_drew)); exact HO271.out))) (below_size (by repeat (first | (with_reducible first | exact HB.out | apply below_alloc | apply pw_below_drewN | apply below_drew1) | exact HB.out)))); have n4_ := Aside0.mk (below_step (by repeat (first | (with_reducible first | exact HB.out | apply below_alloc | apply pw_below_drewN | apply below_drew1) | exact HB.out)) hb); clear HO269; clear HO271; clear HB; have HO269 := n0_; have HO271 := n1_; have HO276 := n2_; have HO278 := n3_; have HB := n4_; clear n0_ n1_ n2_ n3_ n4_; (try clear hb); (try clear hb2); (try clear hk); (try clear hi); (try clear ho0); (try clear ho1); obtain ⟨Ao54, co54, eo54⟩ := Kd.R_slice HO276.out; subst eo54) | ((with_reducible refine gate_callee (f := 25) rfl ?_); refine goesL_ (some 103) rfl rfl Try.func25 (by kernel_rfl) rfl #[] rfl (by (try simp only [List.map_toArray, List.map_cons, List.map_nil]); first | done | rfl | (simp only [List.length_drop, List.length_take]; rfl)) ?_; (with_reducible refine (incipitlaw08_known.calls kj10  true _ A49.out).mono ?_); rintro e w55 ⟨rfl, hb⟩; refine ⟨_, rfl, ?_⟩; have n0_ := Aside0.mk (Kd.R_below (by (with_reducible repeat (first | apply Kd.R_alloc | apply Kd.R_drewN | apply Kd.R_drew)); exact HO269.out) hb); have n1_ := Aside0.mk (Kd.R_below (by (with_reducible repeat (first | apply Kd.R_alloc | apply Kd.R_drewN | apply Kd.R_drew)); exact HO271.out) hb); have n2_ := Aside0.mk (Kd.R_below (by (with_reducible repeat (first | apply Kd.R_alloc | apply Kd.R_drewN | apply Kd.R_drew)); exact HO276.out) hb); have n3_ := Aside0.mk (Kd.R_below (by (with_reducible repeat (first | apply Kd.R_alloc | apply Kd.R_drewN | apply Kd.R_drew)); exact HO278.out) hb); have n4_ := Aside0.mk (below_step (by repeat (first | (with_reducible first | exact HB.out | apply below_alloc | apply pw_below_drewN | apply below_drew1) | exact HB.out)) hb); clear HO269; clear HO271; clear HO276; clear HO278; clear HB; have HO269 := n0_; have HO271 := n1_; have HO276 := n2_; have HO278 := n3_; have HB := n4_; clear n0_ n1_ n2_ n3_ n4_; (try clear hb); (try clear hb2); (try clear hk); (try clear hi); obtain ⟨Ao56, co56, eo56⟩ := Kd.R_slice HO269.out; subst eo56))
          go_ret
          exact ⟨by first | rfl | (rw [hSL15.out]; first | rfl | simp) | (simp [errW_none, errW_some] <;> rfl) | (simp only [← hji5]; first | rfl | (simp [errW_none, errW_some] <;> rfl)) | (simp [*, errW_none, errW_some] <;> rfl), by repeat (first | (with_reducible first | exact HB.out | apply below_alloc | apply pw_below_drewN | apply below_drew1) | exact HB.out)⟩
         ·rw [if_neg c51] at H
          have c51b0 : (t267 == 3) = false := beq_eq_false_iff_ne.mpr c51
          have c51b1 : (t267 != 3) = true := bne_iff_ne.mpr c51
          exact absurd (HR_.out ▸ H) (by simp)
        ·replace c50 := Bool.eq_false_iff.mpr c50
         subst c50
         have H1 : (some false) = some r := by rw [if_neg (show ¬ (false = true) by decide)] at H; exact H
         clear H
         have H := H1
         clear H1
         exact absurd (HR_.out ▸ H) (by simp)
       ·rw [if_neg c48] at H
        have c48b0 : (((t272.length : Int) % 2) == 1) = false := beq_eq_false_iff_ne.mpr c48
        have c48b1 : (((t272.length : Int) % 2) != 1) = true := bne_iff_ne.mpr c48
        have H' := Aside0.mk H
        clear H
        go_wp2_with (first | ((with_reducible refine gate_callee (f := 63) rfl ?_); refine goesL_ (some 76) rfl rfl Try.func63 (by kernel_rfl) rfl #[.slice A1 (l1.take ((ji5) : Int).toNat).length c1] rfl (by (try simp only [List.map_toArray, List.map_cons, List.map_nil]); first | done | (rw [show (l1.take ((ji5) : Int).toNat).length = (ji5).toNat from hSL15.out] <;> rfl) | (simp only [hji5]; rfl) | rfl | (simp only [List.length_drop, List.length_take]; rfl)) ?_; (with_reducible refine (extent_Decode.calls kj10 _ _ (l1.take ((ji5) : Int).toNat) t265 t266 t267 _ ?side1 ?side2 A45.out).mono ?_); (case side1 => repeat (first | exact (Kd.C_below HR234.out HB.out) | (with_reducible refine Kd.C_alloc ?_ _) | (with_reducible refine Kd.C_drewN ?_ _) | (with_reducible refine Kd.C_drew ?_))); (case side2 => exact HC234.out); rintro e w57 ⟨v268, v270, rfl, ho0, ho1, hb⟩; refine ⟨_, rfl, ?_⟩; have n0_ := Aside0.mk (Kd.R_lower ho0 (below_size (by repeat (first | (with_reducible first | exact HB.out | apply below_alloc | apply pw_below_drewN | apply below_drew1) | exact HB.out)))); have n1_ := Aside0.mk (Kd.R_lower ho1 (below_size (by repeat (first | (with_reducible first | exact HB.out | apply below_alloc | apply pw_below_drewN | apply below_drew1) | exact HB.out)))); have n2_ := Aside0.mk (below_step (by repeat (first | (with_reducible first | exact HB.out | apply below_alloc | apply pw_below_drewN | apply below_drew1) | exact HB.out)) hb); clear HB; have HO269 := n0_; have HO271 := n1_; have HB := n2_; clear n0_ n1_ n2_; (try clear hb); (try clear hb2); (try clear hk); (try clear hi); (try clear ho0); (try clear ho1)) | ((with_reducible refine gate_callee (f := 66) rfl ?_); refine goesL_ (some 82) rfl rfl Try.func66 (by kernel_rfl) rfl #[.slice A1 (l1.take ((ji5) : Int).toNat).length c1] rfl (by (try simp only [List.map_toArray, List.map_cons, List.map_nil]); first | done | (rw [show (l1.take ((ji5) : Int).toNat).length = (ji5).toNat from hSL15.out] <;> rfl) | (simp only [hji5]; rfl) | rfl | (simp only [List.length_drop, List.length_take]; rfl)) ?_; (with_reducible refine (varint_GetList.calls _ _ (l1.take ((ji5) : Int).toNat) t272 t273 t274 _ ?side1 ?side2 A46.out).mono ?_); (case side1 => repeat (first | exact (Kd.C_below HR234.out HB.out) | (with_reducible refine Kd.C_alloc ?_ _) | (with_reducible refine Kd.C_drewN ?_ _) | (with_reducible refine Kd.C_drew ?_))); (case side2 => exact HC234.out); rintro e w58 ⟨v275, v277, rfl, ho0, ho1, hb⟩; refine ⟨_, rfl, ?_⟩; have n0_ := Aside0.mk (Kd.R_below (by (with_reducible repeat (first | apply Kd.R_alloc | apply Kd.R_drewN | apply Kd.R_drew)); exact HO269.out) hb); have n1_ := Aside0.mk (Kd.R_elder' (by (with_reducible repeat (first | apply Kd.R_alloc | apply Kd.R_drewN | apply Kd.R_drew)); exact HO271.out) (Kd.R_base ho1) hb); have n2_ := Aside0.mk (Kd.R_lower ho0 (below_size (by repeat (first | (with_reducible first | exact HB.out | apply below_alloc | apply pw_below_drewN | apply below_drew1) | exact HB.out)))); have n3_ := Aside0.mk (Kd.R_lower (Kd.R_new' ho1 (Kd.R_lt (by (with_reducible repeat (first | apply Kd.R_alloc | apply Kd.R_drewN | apply Kd.R_drew)); exact HO271.out))) (below_size (by repeat (first | (with_reducible first | exact HB.out | apply below_alloc | apply pw_below_drewN | apply below_drew1) | exact HB.out)))); have n4_ := Aside0.mk (below_step (by repeat (first | (with_reducible first | exact HB.out | apply below_alloc | apply pw_below_drewN | apply below_drew1) | exact HB.out)) hb); clear HO269; clear HO271; clear HB; have HO269 := n0_; have HO271 := n1_; have HO276 := n2_; have HO278 := n3_; have HB := n4_; clear n0_ n1_ n2_ n3_ n4_; (try clear hb); (try clear hb2); (try clear hk); (try clear hi); (try clear ho0); (try clear ho1); obtain ⟨Ao59, co59, eo59⟩ := Kd.R_slice HO276.out; subst eo59))
        go_loopg [19, 20] kj10 (fun kq v19 v20 w' => ∃ (x19_2 : List (S96)) (x20_2 : Int), v20 = .int .i64 x20_2 ∧ Aside0 (incipitlaw08_ExtentBytes.l0 kq t265 t266 t267 t272 t273 x19_2 x20_2 = some r) ∧ Aside0 (kq ≤ kj10) ∧ Aside0 (Kd.R k107 107 w' w.heap.size (fun _ => True) v268 t265) ∧ Aside0 (Kd.R (Kd.int .u8) 5 w' w.heap.size (fun k_ => some k_ ≠ (v277 : Value).ownBlock) v270 t266) ∧ Aside0 (Kd.R (Kd.int .i64) 3 w' w.heap.size (fun _ => True) (.slice Ao59 t272.length co59) t272) ∧ Aside0 (Kd.R (Kd.int .u8) 5 w' w.heap.size (fun k_ => some k_ ≠ (v270 : Value).ownBlock) v277 t273) ∧ Aside0 (Kd.R k96 96 w' w.heap.size (fun _ => True) v19 x19_2) ∧ Aside0 (Below w.heap.size w w'))
        case atStart => exact ⟨(([] : List (S96))), (0), (by first | rfl | (simp; done) | (simp [*]; done)), H', ⟨Nat.le_refl _⟩, ⟨by (with_reducible repeat (first | apply Kd.R_alloc | apply Kd.R_drewN | apply Kd.R_drew)); exact HO269.out⟩, ⟨by (with_reducible repeat (first | apply Kd.R_alloc | apply Kd.R_drewN | apply Kd.R_drew)); exact Kd.R_mono HO271.out (fun _ hk => hk.2)⟩, ⟨by (with_reducible repeat (first | apply Kd.R_alloc | apply Kd.R_drewN | apply Kd.R_drew)); exact HO276.out⟩, ⟨by (with_reducible repeat (first | apply Kd.R_alloc | apply Kd.R_drewN | apply Kd.R_drew)); exact Kd.R_mono HO278.out (fun _ hk => hk.2)⟩, ⟨by first | exact Kd.R_nil _ _ _ _ _ | exact Kd.N_nil _ _ _ _ _ | exact Kd.V_nil _ _ _ _ _ | exact Kd.Q_nil _ _ _ _ _ | exact Kd.S_nil _ _ _ _ _⟩, ⟨by repeat (first | (with_reducible first | exact HB.out | apply below_alloc | apply pw_below_drewN | apply below_drew1) | exact HB.out)⟩⟩
        case round =>
         clear H'
         try clear c1
         try clear c2
         try clear p2
         try clear c3
         try clear c4
         try clear c5
         try clear c6
         try clear c6b0
         try clear c6b1
         try clear c7
         try clear c7b0
         try clear c7b1
         try clear c10
         try clear c10b0
         try clear c10b1
         try clear c19
         try clear c19b0
         try clear c19b1
         try clear c20
         try clear c21
         try clear c24
         try clear c25
         try clear c26
         try clear c26b0
         try clear c26b1
         try clear c29
         try clear c31
         try clear c47
         try clear c47b0
         try clear c47b1
         try clear c48
         try clear c48b0
         try clear c48b1
         try clear c50
         try clear c51
         try clear c51b0
         try clear c51b1
         try clear c54
         try clear c55
         try clear p2
         obtain ⟨x19_2, x20_2, rfl, HA, HK2, HO_13, HO_14, HO_16, HO_17, HO_19, HB⟩ := hrel
         cases gk with
         | zero => exact absurd HA.out (by simp [incipitlaw08_ExtentBytes.l0])
         | succ k2 =>
          have H := HA.out
          clear HA
          simp only [incipitlaw08_ExtentBytes.l0] at H
          by_cases c60 : (wrap64 (x20_2 + 1)) < (t272.length : Int)
          ·rw [if_pos c60] at H
           have c60b0 : decide ((wrap64 (x20_2 + 1)) < (t272.length : Int)) = true := decide_eq_true c60
           clear c60
           by_cases c61 : 0 ≤ x20_2
           ·rw [if_pos c61] at H
            have c61b0 : decide (0 ≤ x20_2) = true := decide_eq_true c61
            clear c61
            by_cases c62 : x20_2 < (t272.length : Int)
            ·rw [if_pos c62] at H
             have c62b0 : decide (x20_2 < (t272.length : Int)) = true := decide_eq_true c62
             clear c62
             obtain ⟨ji63, hji63⟩ : ∃ j_ : Int, (wrap64 (x20_2 + 1)) = j_ := ⟨_, rfl⟩
             replace H : (if 0 ≤ (ji63) then (if x19_2.length < 8796093022208 then (incipitlaw08_ExtentBytes.l0 k2 t265 t266 t267 t272 t273 (x19_2 ++ [(⟨rd t272 x20_2, rd t272 (ji63)⟩ : S96)]) (wrap64 (x20_2 + 2))) else (none)) else (none)) = some r := by first | (rw [hji63] at H; exact H) | (simp only [hji63] at H ⊢; exact H)
             (try rw [hji63] at c60b0)
             have hji63w : (IntKind.i64.wrap (x20_2 + 1)) = ji63 := (i64_w _).trans hji63
             by_cases c64 : 0 ≤ (ji63)
             ·rw [if_pos c64] at H
              have c64b0 : decide (0 ≤ (ji63)) = true := decide_eq_true c64
              clear c64
              by_cases c65 : x19_2.length < 8796093022208
              ·rw [if_pos c65] at H
               have LMc65 := Aside0.mk c65
               clear c65
               obtain ⟨y283, hy283⟩ : ∃ y_ : List (S96), y_ = (x19_2 ++ [(⟨rd t272 x20_2, rd t272 (ji63)⟩ : S96)]) := ⟨_, rfl⟩
               replace H : (incipitlaw08_ExtentBytes.l0 k2 t265 t266 t267 t272 t273 y283 (wrap64 (x20_2 + 2))) = some r := by first | (rw [hy283]; with_reducible exact H) | (have H2_ := (Option.bind_some _ _).symm.trans H; rw [hy283]; with_reducible exact H2_) | (have H2_ := (Option.bind_some _ _).symm.trans H; with_reducible exact H2_) | with_reducible exact H | (rw [hy283]; exact H) | exact H
               have Ny283 := Aside0.mk hy283
               clear hy283
               have H' := Aside0.mk H
               clear H
               try go_wp2
               have n0_ := Aside0.mk (Kd.R_drew HO_13.out)
               have n1_ := Aside0.mk (Kd.R_drew HO_14.out)
               have n2_ := Aside0.mk (Kd.R_drew HO_16.out)
               have n3_ := Aside0.mk (Kd.R_drew HO_17.out)
               have n4_ := Aside0.mk (Kd.R_drew HO_19.out)
               have n5_ := Aside0.mk (below_drew1 HB.out)
               clear HO_13
               clear HO_14
               clear HO_16
               clear HO_17
               clear HO_19
               clear HB
               have HO_13 := n0_
               have HO_14 := n1_
               have HO_16 := n2_
               have HO_17 := n3_
               have HO_19 := n4_
               have HB := n5_
               clear n0_ n1_ n2_ n3_ n4_ n5_
               have p281 : 0 ≤ (x20_2 : Int) := of_decide_eq_true (by first | (with_reducible assumption) | assumption)
               have q281 : x20_2 < (t272.length : Int) := of_decide_eq_true (by first | (with_reducible assumption) | assumption)
               obtain ⟨ad281, e281, hx281_0⟩ := Kd.at_int (Kd.R_reads' HO_16.out).2.2 x20_2 p281 q281
               cases e281
               replace p281 := eq_true p281
               replace q281 := eq_true q281
               have p282 : 0 ≤ ((ji63) : Int) := of_decide_eq_true (by first | (with_reducible assumption) | assumption)
               have q282 : (ji63) < (t272.length : Int) := of_decide_eq_true (by first | (with_reducible assumption) | assumption)
               obtain ⟨ad282, e282, hx282_0⟩ := Kd.at_int (Kd.R_reads' HO_16.out).2.2 (ji63) p282 q282
               obtain rfl : ad281 = ad282 := (by injection e282)
               replace p282 := eq_true p282
               replace q282 := eq_true q282
               refine start_ (n := 14) (S := fun w' => w'.cell? (ad281.add (x20_2).toNat) = some (.int .i64 (rd t272 x20_2)) ∧ w'.cell? (ad281.add ((ji63)).toNat) = some (.int .i64 (rd t272 (ji63)))) (ds := [11, 12]) #[false, false, false, false, false, false, false, false, false, false, false, false, false, false] (by kernel_rfl) rfl rfl ⟨hx281_0, hx282_0⟩ (fun hHeld => ?_); refine with_tabW incipitlaw08_ExtentBytes.tab22 incipitlaw08_ExtentBytes.bits22 (fun HT_ HW_ => ?_)
               generalize wr.drew = w66 at HO_13 HO_14 HO_16 HO_17 HO_19 HB hx281_0 hx282_0 hHeld ⊢
               refine pure_ (i := 0) (N := some 120) (v := ?_) (a' := ?_) #[true, false, false, false, false, false, false, false, false, false, false, false, false, false] rfl rfl (any_of HT_.out (by kernel_rfl)) (fun _ _ _ h => h) (Or.inl ⟨by rfl, ?_⟩) ?_ ?_
               rotate_left
               ·intro w'
                go_simp
                with_reducible rfl
               rotate_left
               ·simp only [Act.put, List.setIfInBounds_toArray, List.set_cons_zero, List.set_cons_succ, i64_w, i32_w]
                rfl
               refine pure_ (i := 1) (N := some 121) (v := ?_) (a' := ?_) #[true, true, false, false, false, false, false, false, false, false, false, false, false, false] rfl rfl (any_of HT_.out (by kernel_rfl)) (fun _ _ _ h => h) (Or.inl ⟨by rfl, ?_⟩) ?_ ?_
               rotate_left
               ·intro w'
                go_simp
                with_reducible rfl
               rotate_left
               ·simp only [Act.put, List.setIfInBounds_toArray, List.set_cons_zero, List.set_cons_succ, i64_w, i32_w]
                rfl
               refine pure_ (i := 2) (N := some 122) (v := ?_) (a' := ?_) #[true, true, true, false, false, false, false, false, false, false, false, false, false, false] rfl rfl (any_of HT_.out (by kernel_rfl)) (fun _ _ _ h => h) (Or.inl ⟨by rfl, ?_⟩) ?_ ?_
               rotate_left
               ·intro w'
                go_simp
                with_reducible rfl
               rotate_left
               ·simp only [Act.put, List.setIfInBounds_toArray, List.set_cons_zero, List.set_cons_succ, i64_w, i32_w]
                rfl
               refine pure_ (i := 3) (N := some 123) (v := ?_) (a' := ?_) #[true, true, true, true, false, false, false, false, false, false, false, false, false, false] rfl rfl (any_of HT_.out (by kernel_rfl)) (fun _ _ _ h => h) (Or.inl ⟨by rfl, ?_⟩) ?_ ?_
               rotate_left
               ·intro w'
                go_simp
                with_reducible rfl
               rotate_left
               ·simp only [Act.put, List.setIfInBounds_toArray, List.set_cons_zero, List.set_cons_succ, i64_w, i32_w]
                rfl
               refine pure_ (i := 5) (N := some 125) (v := ?_) (a' := ?_) #[true, true, true, true, false, true, false, false, false, false, false, false, false, false] rfl rfl (any_of HT_.out (by kernel_rfl)) (fun _ _ _ h => h) (Or.inl ⟨by rfl, ?_⟩) ?_ ?_
               rotate_left
               ·intro w'
                go_simp
                with_reducible rfl
               rotate_left
               ·simp only [Act.put, List.setIfInBounds_toArray, List.set_cons_zero, List.set_cons_succ, i64_w, i32_w]
                rfl
               refine pure_ (i := 6) (N := some 126) (v := ?_) (a' := ?_) #[true, true, true, true, false, true, true, false, false, false, false, false, false, false] rfl rfl (any_of HT_.out (by kernel_rfl)) (fun _ _ _ h => h) (Or.inl ⟨by rfl, ?_⟩) ?_ ?_
               rotate_left
               ·intro w'
                go_simp
                with_reducible rfl
               rotate_left
               ·simp only [Act.put, List.setIfInBounds_toArray, List.set_cons_zero, List.set_cons_succ, i64_w, i32_w]
                rfl
               refine pure_ (i := 7) (N := some 127) (v := ?_) (a' := ?_) #[true, true, true, true, false, true, true, true, false, false, false, false, false, false] rfl rfl (any_of HT_.out (by kernel_rfl)) (fun _ _ _ h => h) (Or.inl ⟨by rfl, ?_⟩) ?_ ?_
               rotate_left
               ·intro w'
                go_simp
                with_reducible rfl
               rotate_left
               ·simp only [Act.put, List.setIfInBounds_toArray, List.set_cons_zero, List.set_cons_succ, i64_w, i32_w]
                rfl
               refine pure_ (i := 8) (N := some 128) (v := ?_) (a' := ?_) #[true, true, true, true, false, true, true, true, true, false, false, false, false, false] rfl rfl (any_of HT_.out (by kernel_rfl)) (fun _ _ _ h => h) (Or.inl ⟨by rfl, ?_⟩) ?_ ?_
               rotate_left
               ·intro w'
                go_simp
                with_reducible rfl
               rotate_left
               ·simp only [Act.put, List.setIfInBounds_toArray, List.set_cons_zero, List.set_cons_succ, i64_w, i32_w]
                rfl
               refine take_ (i := 4) (N := some 124) (v := ?_) (a' := ?_) #[true, true, true, true, true, true, true, true, true, false, false, false, false, false] rfl rfl (take_ofW HT_.out HW_.out (by kernel_rfl)) (fun _ _ _ h => h) (Or.inl ⟨by rfl, ?_⟩) hHeld ?_ ?_
               rotate_left
               ·rintro w' ⟨s0, s1⟩
                go_simp
                with_reducible rfl
               rotate_left
               ·simp only [Act.put, List.setIfInBounds_toArray, List.set_cons_zero, List.set_cons_succ, i64_w, i32_w]
                rfl
               refine take_ (i := 9) (N := some 129) (v := ?_) (a' := ?_) #[true, true, true, true, true, true, true, true, true, true, false, false, false, false] rfl rfl (take_ofW HT_.out HW_.out (by kernel_rfl)) (fun _ _ _ h => h) (Or.inl ⟨by rfl, ?_⟩) hHeld ?_ ?_
               rotate_left
               ·rintro w' ⟨s0, s1⟩
                go_simp
                with_reducible rfl
               rotate_left
               ·simp only [Act.put, List.setIfInBounds_toArray, List.set_cons_zero, List.set_cons_succ, i64_w, i32_w]
                rfl
               refine pure_ (i := 10) (N := some 130) (v := ?_) (a' := ?_) #[true, true, true, true, true, true, true, true, true, true, true, false, false, false] rfl rfl (any_of HT_.out (by kernel_rfl)) (fun _ _ _ h => h) (Or.inl ⟨by rfl, ?_⟩) ?_ ?_
               rotate_left
               ·intro w'
                go_simp
                with_reducible rfl
               rotate_left
               ·simp only [Act.put, List.setIfInBounds_toArray, List.set_cons_zero, List.set_cons_succ, i64_w, i32_w]
                rfl
               refine last_ (i := 11) (N := some 131) #[true, true, true, true, true, true, true, true, true, true, true, true, false, false] rfl rfl (one_of HT_.out (by kernel_rfl)) (by decide) (fun K hK => ?_)
               refine value_ (w1 := ?_) (v := ?_) (by rfl) rfl ?_ ?_
               rotate_left 2
               ·go_simp
                constructor
                ·rfl
                ·rfl
               refine hK.out _ _ ?_
               clear hK K
               refine norm_ (a' := ?_) ?_ ?_
               rotate_left
               ·show Act.put _ (some 131) _ = _
                simp only [Act.put, List.setIfInBounds_toArray, List.set_cons_zero, List.set_cons_succ, i64_w, i32_w]
                rfl
               refine last_ (i := 12) (N := some 132) #[true, true, true, true, true, true, true, true, true, true, true, true, true, false] rfl rfl (one_of HT_.out (by kernel_rfl)) (by decide) (fun K hK => ?_)
               refine Kd.R_append_step k96 (w0 := w) w.heap.size (by rfl) (.tmp 120) (.tmp 131) 40 96 (.agg #[(.int .i64 0), (.int .i64 0)]) 16 rfl Try.underlying40 info96 rfl (by decide) (by omega) u19 x19_2 (⟨rd t272 x20_2, rd t272 (ji63)⟩ : S96) [.int .i64 (rd t272 x20_2), .int .i64 (rd t272 (ji63))] (fun _ => True) (fun _ => False) rfl rfl ?aP (fun _ hk => hk.elim) ?aF ?aO ?aB ?aS ?aL ?_
               (case aP => exact k96_mkM _ _ _ (⟨rd t272 x20_2, rd t272 (ji63)⟩ : S96))
               (case aB => exact (by repeat (first | (with_reducible first | exact HB.out | apply below_alloc | apply pw_below_drewN | apply below_drew1) | exact HB.out)))
               (case aF => exact (fun _ _ => trivial))
               (case aO => exact (by (with_reducible repeat (first | apply Kd.R_alloc | apply Kd.R_drewN | apply Kd.R_drew)); exact HO_19.out))
               (case aS => exact (below_size (by repeat (first | (with_reducible first | exact HB.out | apply below_alloc | apply pw_below_drewN | apply below_drew1) | exact HB.out))))
               (case aL => have := LMc65.out; omega)
               intro v284 w67 ho hb hg hat
               rw [← Ny283.out] at ho
               have n0_ := Aside0.mk (Kd.R_over' (by (with_reducible repeat (first | apply Kd.R_alloc | apply Kd.R_drewN | apply Kd.R_drew)); exact HO_13.out) (Kd.R_typed (by (with_reducible repeat (first | apply Kd.R_alloc | apply Kd.R_drewN | apply Kd.R_drew)); exact HO_19.out)) (by decide) hg)
               have n1_ := Aside0.mk (Kd.R_over' (by (with_reducible repeat (first | apply Kd.R_alloc | apply Kd.R_drewN | apply Kd.R_drew)); exact HO_14.out) (Kd.R_typed (by (with_reducible repeat (first | apply Kd.R_alloc | apply Kd.R_drewN | apply Kd.R_drew)); exact HO_19.out)) (by decide) hg)
               have n2_ := Aside0.mk (Kd.R_over' (by (with_reducible repeat (first | apply Kd.R_alloc | apply Kd.R_drewN | apply Kd.R_drew)); exact HO_16.out) (Kd.R_typed (by (with_reducible repeat (first | apply Kd.R_alloc | apply Kd.R_drewN | apply Kd.R_drew)); exact HO_19.out)) (by decide) hg)
               have n3_ := Aside0.mk (Kd.R_over' (by (with_reducible repeat (first | apply Kd.R_alloc | apply Kd.R_drewN | apply Kd.R_drew)); exact HO_17.out) (Kd.R_typed (by (with_reducible repeat (first | apply Kd.R_alloc | apply Kd.R_drewN | apply Kd.R_drew)); exact HO_19.out)) (by decide) hg)
               have n4_ := Aside0.mk (hb)
               have n5_ := Aside0.mk (ho)
               clear HO_13
               clear HO_14
               clear HO_16
               clear HO_17
               clear HB
               clear HO_19
               have HO_13 := n0_
               have HO_14 := n1_
               have HO_16 := n2_
               have HO_17 := n3_
               have HB := n4_
               have HO285 := n5_
               clear n0_ n1_ n2_ n3_ n4_ n5_
               clear ho hb hg hat
               refine hK.out _ _ ?_
               clear hK K
               refine norm_ (a' := ?_) ?_ ?_
               rotate_left
               ·show Act.put _ (some 132) _ = _
                simp only [Act.put, List.setIfInBounds_toArray, List.set_cons_zero, List.set_cons_succ, i64_w, i32_w]
                rfl
               refine pure_ (i := 13) (N := some 19) (v := ?_) (a' := ?_) #[true, true, true, true, true, true, true, true, true, true, true, true, true, true] rfl rfl (any_of HT_.out (by kernel_rfl)) (fun _ _ _ h => h) (Or.inl ⟨by rfl, ?_⟩) ?_ ?_
               rotate_left
               ·intro w'
                go_simp
                with_reducible rfl
               rotate_left
               ·simp only [Act.put, List.setIfInBounds_toArray, List.set_cons_zero, List.set_cons_succ, i64_w, i32_w]
                rfl
               refine done_ (done_of HT_.out (by kernel_rfl)) ?_
               try go_wp2
               go_roundg k2
               case measure => have := HJ10.out; have := HK2.out; omega
               case rel => exact ⟨(y283), (wrap64 (x20_2 + 2)), (by first | rfl | (simp; done) | (simp [*]; done)), H', ⟨by have := HJ10.out; have := HK2.out; omega⟩, ⟨by (with_reducible repeat (first | apply Kd.R_alloc | apply Kd.R_drewN | apply Kd.R_drew)); exact HO_13.out⟩, ⟨by (with_reducible repeat (first | apply Kd.R_alloc | apply Kd.R_drewN | apply Kd.R_drew)); exact HO_14.out⟩, ⟨by (with_reducible repeat (first | apply Kd.R_alloc | apply Kd.R_drewN | apply Kd.R_drew)); exact HO_16.out⟩, ⟨by (with_reducible repeat (first | apply Kd.R_alloc | apply Kd.R_drewN | apply Kd.R_drew)); exact HO_17.out⟩, ⟨by (with_reducible repeat (first | apply Kd.R_alloc | apply Kd.R_drewN | apply Kd.R_drew)); exact HO285.out⟩, ⟨by repeat (first | (with_reducible first | exact HB.out | apply below_alloc | apply pw_below_drewN | apply below_drew1) | exact HB.out)⟩⟩
              ·rw [if_neg c65] at H
               exact absurd H (by simp)
             ·rw [if_neg c64] at H
              exact absurd H (by simp)
            ·rw [if_neg c62] at H
             exact absurd H (by simp)
           ·rw [if_neg c61] at H
            exact absurd H (by simp)
          ·rw [if_neg c60] at H
           have c60b0 : decide ((wrap64 (x20_2 + 1)) < (t272.length : Int)) = false := decide_eq_false c60
           clear c60
           replace H := Option.bind_eq_some_iff.mp H
           obtain ⟨t286, A680, H⟩ := H
           replace H : (if t286 = 0 then ((incipitlaw08_known.f k2).bind fun t289 => (if t289 = true then (if t267 = 0 then ((incipitlaw08_Of.f k2 t265).bind fun t290 => ((incipitref08_Same.f k2 t290 x19_2).bind fun t293 => (if t293 = true then ((incipitref01_Same.f k2 t266 t273).bind fun t294 => (some t294)) else (some false)))) else (some false)) else (some false))) else ((incipitlaw08_known.f k2).bind fun t287 => (if t287 = true then ((incipitref08_Check.f k2 x19_2).bind fun t288 => (if t267 = t288 then (some ((t265.length : Int) == 0)) else (some false))) else (some false)))) = some r := H
           have A68 := Aside0.mk A680
           clear A680
           by_cases c69 : t286 = 0
           ·rw [if_pos c69] at H
            have c69b0 : (t286 == 0) = true := beq_iff_eq.mpr c69
            have c69b1 : (t286 != 0) = false := bne_eq_false_iff_eq.mpr c69
            clear c69
            replace H := Option.bind_eq_some_iff.mp H
            obtain ⟨t289, A700, H⟩ := H
            replace H : (if t289 = true then (if t267 = 0 then ((incipitlaw08_Of.f k2 t265).bind fun t290 => ((incipitref08_Same.f k2 t290 x19_2).bind fun t293 => (if t293 = true then ((incipitref01_Same.f k2 t266 t273).bind fun t294 => (some t294)) else (some false)))) else (some false)) else (some false)) = some r := H
            have A70 := Aside0.mk A700
            clear A700
            by_cases c71 : t289 = true
            ·subst c71
             have H1 : (if t267 = 0 then ((incipitlaw08_Of.f k2 t265).bind fun t290 => ((incipitref08_Same.f k2 t290 x19_2).bind fun t293 => (if t293 = true then ((incipitref01_Same.f k2 t266 t273).bind fun t294 => (some t294)) else (some false)))) else (some false)) = some r := by rw [if_pos rfl] at H; exact H
             clear H
             have H := H1
             clear H1
             by_cases c72 : t267 = 0
             ·rw [if_pos c72] at H
              have c72b0 : (t267 == 0) = true := beq_iff_eq.mpr c72
              have c72b1 : (t267 != 0) = false := bne_eq_false_iff_eq.mpr c72
              clear c72
              replace H := Option.bind_eq_some_iff.mp H
              obtain ⟨t290, A730, H⟩ := H
              replace H : ((incipitref08_Same.f k2 t290 x19_2).bind fun t293 => (if t293 = true then ((incipitref01_Same.f k2 t266 t273).bind fun t294 => (some t294)) else (some false))) = some r := H
              have A73 := Aside0.mk A730
              clear A730
              replace H := Option.bind_eq_some_iff.mp H
              obtain ⟨t293, A740, H⟩ := H
              replace H : (if t293 = true then ((incipitref01_Same.f k2 t266 t273).bind fun t294 => (some t294)) else (some false)) = some r := H
              have A74 := Aside0.mk A740
              clear A740
              by_cases c75 : t293 = true
              ·subst c75
               have H1 : ((incipitref01_Same.f k2 t266 t273).bind fun t294 => (some t294)) = some r := by rw [if_pos rfl] at H; exact H
               clear H
               have H := H1
               clear H1
               replace H := Option.bind_eq_some_iff.mp H
               obtain ⟨t294, A760, H⟩ := H
               replace H : (some t294) = some r := H
               have A76 := Aside0.mk A760
               clear A760
               obtain rfl := Option.some.inj H
               obtain ⟨Ao77, co77, eo77⟩ := Kd.R_slice HO_19.out
               subst eo77
               go_wp2_with (first | ((with_reducible refine gate_callee (f := 55) rfl ?_); refine goesL_ (some 134) rfl rfl Try.func55 (by kernel_rfl) rfl #[.slice Ao77 x19_2.length co77] rfl (by (try simp only [List.map_toArray, List.map_cons, List.map_nil]); first | done | rfl | (simp only [List.length_drop, List.length_take]; rfl)) ?_; (with_reducible refine (incipitref08_Check.calls k2 _ _ x19_2 t286 _ ?side1 ?side2 A68.out).mono ?_); (case side1 => repeat (first | exact (Kd.R_reads' HO_19.out).2.2 | (with_reducible refine Kd.C_alloc ?_ _) | (with_reducible refine Kd.C_drewN ?_ _) | (with_reducible refine Kd.C_drew ?_))); (case side2 => exact (Kd.R_reads' HO_19.out).2.1); rintro e w78 ⟨rfl, hb⟩; refine ⟨_, rfl, ?_⟩; have n0_ := Aside0.mk (Kd.R_below (by (with_reducible repeat (first | apply Kd.R_alloc | apply Kd.R_drewN | apply Kd.R_drew)); exact HO_13.out) hb); have n1_ := Aside0.mk (Kd.R_below (by (with_reducible repeat (first | apply Kd.R_alloc | apply Kd.R_drewN | apply Kd.R_drew)); exact HO_14.out) hb); have n2_ := Aside0.mk (Kd.R_below (by (with_reducible repeat (first | apply Kd.R_alloc | apply Kd.R_drewN | apply Kd.R_drew)); exact HO_16.out) hb); have n3_ := Aside0.mk (Kd.R_below (by (with_reducible repeat (first | apply Kd.R_alloc | apply Kd.R_drewN | apply Kd.R_drew)); exact HO_17.out) hb); have n4_ := Aside0.mk (Kd.R_below (by (with_reducible repeat (first | apply Kd.R_alloc | apply Kd.R_drewN | apply Kd.R_drew)); exact HO_19.out) hb); have n5_ := Aside0.mk (below_step (by repeat (first | (with_reducible first | exact HB.out | apply below_alloc | apply pw_below_drewN | apply below_drew1) | exact HB.out)) hb); clear HO_13; clear HO_14; clear HO_16; clear HO_17; clear HO_19; clear HB; have HO_13 := n0_; have HO_14 := n1_; have HO_16 := n2_; have HO_17 := n3_; have HO_19 := n4_; have HB := n5_; clear n0_ n1_ n2_ n3_ n4_ n5_; (try clear hb); (try clear hb2); (try clear hk); (try clear hi)) | ((with_reducible refine gate_callee (f := 25) rfl ?_); refine goesL_ (some 148) rfl rfl Try.func25 (by kernel_rfl) rfl #[] rfl (by (try simp only [List.map_toArray, List.map_cons, List.map_nil]); first | done | rfl | (simp only [List.length_drop, List.length_take]; rfl)) ?_; (with_reducible refine (incipitlaw08_known.calls k2  true _ A70.out).mono ?_); rintro e w79 ⟨rfl, hb⟩; refine ⟨_, rfl, ?_⟩; have n0_ := Aside0.mk (Kd.R_below (by (with_reducible repeat (first | apply Kd.R_alloc | apply Kd.R_drewN | apply Kd.R_drew)); exact HO_13.out) hb); have n1_ := Aside0.mk (Kd.R_below (by (with_reducible repeat (first | apply Kd.R_alloc | apply Kd.R_drewN | apply Kd.R_drew)); exact HO_14.out) hb); have n2_ := Aside0.mk (Kd.R_below (by (with_reducible repeat (first | apply Kd.R_alloc | apply Kd.R_drewN | apply Kd.R_drew)); exact HO_16.out) hb); have n3_ := Aside0.mk (Kd.R_below (by (with_reducible repeat (first | apply Kd.R_alloc | apply Kd.R_drewN | apply Kd.R_drew)); exact HO_17.out) hb); have n4_ := Aside0.mk (Kd.R_below (by (with_reducible repeat (first | apply Kd.R_alloc | apply Kd.R_drewN | apply Kd.R_drew)); exact HO_19.out) hb); have n5_ := Aside0.mk (below_step (by repeat (first | (with_reducible first | exact HB.out | apply below_alloc | apply pw_below_drewN | apply below_drew1) | exact HB.out)) hb); clear HO_13; clear HO_14; clear HO_16; clear HO_17; clear HO_19; clear HB; have HO_13 := n0_; have HO_14 := n1_; have HO_16 := n2_; have HO_17 := n3_; have HO_19 := n4_; have HB := n5_; clear n0_ n1_ n2_ n3_ n4_ n5_; (try clear hb); (try clear hb2); (try clear hk); (try clear hi); obtain ⟨Ao80, co80, eo80⟩ := Kd.R_slice HO_13.out; subst eo80) | (go_at_call 24; (with_reducible refine (incipitlaw08_Of.calls k2 _ _ t265 t290 _ ?side1 ?side2 A73.out).mono ?_); (case side1 => repeat (first | exact (Kd.R_reads' HO_13.out).2.2 | (with_reducible refine Kd.C_alloc ?_ _) | (with_reducible refine Kd.C_drewN ?_ _) | (with_reducible refine Kd.C_drew ?_))); (case side2 => exact (Kd.R_reads' HO_13.out).2.1); rintro e w81 ⟨v291, rfl, ho0, hb⟩; have n0_ := Aside0.mk (Kd.R_below (by (with_reducible repeat (first | apply Kd.R_alloc | apply Kd.R_drewN | apply Kd.R_drew)); exact HO_13.out) hb); have n1_ := Aside0.mk (Kd.R_below (by (with_reducible repeat (first | apply Kd.R_alloc | apply Kd.R_drewN | apply Kd.R_drew)); exact HO_14.out) hb); have n2_ := Aside0.mk (Kd.R_below (by (with_reducible repeat (first | apply Kd.R_alloc | apply Kd.R_drewN | apply Kd.R_drew)); exact HO_16.out) hb); have n3_ := Aside0.mk (Kd.R_below (by (with_reducible repeat (first | apply Kd.R_alloc | apply Kd.R_drewN | apply Kd.R_drew)); exact HO_17.out) hb); have n4_ := Aside0.mk (Kd.R_elder' (by (with_reducible repeat (first | apply Kd.R_alloc | apply Kd.R_drewN | apply Kd.R_drew)); exact HO_19.out) (Kd.R_base ho0) hb); have n5_ := Aside0.mk (Kd.R_lower (Kd.R_new' ho0 (Kd.R_lt (by (with_reducible repeat (first | apply Kd.R_alloc | apply Kd.R_drewN | apply Kd.R_drew)); exact HO_19.out))) (below_size (by repeat (first | (with_reducible first | exact HB.out | apply below_alloc | apply pw_below_drewN | apply below_drew1) | exact HB.out)))); have n6_ := Aside0.mk (below_step (by repeat (first | (with_reducible first | exact HB.out | apply below_alloc | apply pw_below_drewN | apply below_drew1) | exact HB.out)) hb); clear HO_13; clear HO_14; clear HO_16; clear HO_17; clear HO_19; clear HB; have HO_13 := n0_; have HO_14 := n1_; have HO_16 := n2_; have HO_17 := n3_; have HO_19 := n4_; have HO292 := n5_; have HB := n6_; clear n0_ n1_ n2_ n3_ n4_ n5_ n6_; (try clear hb); (try clear hb2); (try clear hk); (try clear hi); (try clear ho0); obtain ⟨Ao82, co82, eo82⟩ := Kd.R_slice HO292.out; subst eo82) | (go_at_call 23; (with_reducible refine (incipitref08_Same.calls k2 _ _ t290 _ _ x19_2 true _ ?side1 ?side2 ?side3 ?side4 A74.out).mono ?_); (case side1 => repeat (first | exact (Kd.R_reads' HO292.out).2.2 | (with_reducible refine Kd.C_alloc ?_ _) | (with_reducible refine Kd.C_drewN ?_ _) | (with_reducible refine Kd.C_drew ?_))); (case side2 => exact (Kd.R_reads' HO292.out).2.1); (case side3 => repeat (first | exact (Kd.R_reads' HO_19.out).2.2 | (with_reducible refine Kd.C_alloc ?_ _) | (with_reducible refine Kd.C_drewN ?_ _) | (with_reducible refine Kd.C_drew ?_))); (case side4 => exact (Kd.R_reads' HO_19.out).2.1); rintro e w' ⟨rfl, ⟨nd, rfl⟩⟩; obtain ⟨Ao83, co83, eo83⟩ := Kd.R_slice HO_14.out; subst eo83; obtain ⟨Ao84, co84, eo84⟩ := Kd.R_slice HO_17.out; subst eo84) | (go_at_call 64; (with_reducible refine (incipitref01_Same.calls k2 _ _ t266 _ _ t273 t294 _ ?side1 ?side2 ?side3 ?side4 A76.out).mono ?_); (case side1 => repeat (first | exact (Kd.R_reads' HO_14.out).2.2 | (with_reducible refine Kd.C_alloc ?_ _) | (with_reducible refine Kd.C_drewN ?_ _) | (with_reducible refine Kd.C_drew ?_))); (case side2 => exact (Kd.R_reads' HO_14.out).2.1); (case side3 => repeat (first | exact (Kd.R_reads' HO_17.out).2.2 | (with_reducible refine Kd.C_alloc ?_ _) | (with_reducible refine Kd.C_drewN ?_ _) | (with_reducible refine Kd.C_drew ?_))); (case side4 => exact (Kd.R_reads' HO_17.out).2.1); rintro e w' ⟨rfl, ⟨nd, rfl⟩⟩))
               go_ret
               exact ⟨by first | rfl | (rw [hSL15.out]; first | rfl | simp) | (simp [errW_none, errW_some] <;> rfl) | (simp only [← hji5]; first | rfl | (simp [errW_none, errW_some] <;> rfl)) | (simp [*, errW_none, errW_some] <;> rfl), by repeat (first | (with_reducible first | exact HB.out | apply below_alloc | apply pw_below_drewN | apply below_drew1) | exact HB.out)⟩
              ·replace c75 := Bool.eq_false_iff.mpr c75
               subst c75
               have H1 : (some false) = some r := by rw [if_neg (show ¬ (false = true) by decide)] at H; exact H
               clear H
               have H := H1
               clear H1
               exact absurd (HR_.out ▸ H) (by simp)
             ·rw [if_neg c72] at H
              have c72b0 : (t267 == 0) = false := beq_eq_false_iff_ne.mpr c72
              have c72b1 : (t267 != 0) = true := bne_iff_ne.mpr c72
              exact absurd (HR_.out ▸ H) (by simp)
            ·replace c71 := Bool.eq_false_iff.mpr c71
             subst c71
             have H1 : (some false) = some r := by rw [if_neg (show ¬ (false = true) by decide)] at H; exact H
             clear H
             have H := H1
             clear H1
             exact absurd (HR_.out ▸ H) (by simp)
           ·rw [if_neg c69] at H
            have c69b0 : (t286 == 0) = false := beq_eq_false_iff_ne.mpr c69
            have c69b1 : (t286 != 0) = true := bne_iff_ne.mpr c69
            replace H := Option.bind_eq_some_iff.mp H
            obtain ⟨t287, A850, H⟩ := H
            replace H : (if t287 = true then ((incipitref08_Check.f k2 x19_2).bind fun t288 => (if t267 = t288 then (some ((t265.length : Int) == 0)) else (some false))) else (some false)) = some r := H
            have A85 := Aside0.mk A850
            clear A850
            by_cases c86 : t287 = true
            ·subst c86
             have H1 : ((incipitref08_Check.f k2 x19_2).bind fun t288 => (if t267 = t288 then (some ((t265.length : Int) == 0)) else (some false))) = some r := by rw [if_pos rfl] at H; exact H
             clear H
             have H := H1
             clear H1
             replace H := Option.bind_eq_some_iff.mp H
             obtain ⟨t288, A870, H⟩ := H
             replace H : (if t267 = t288 then (some ((t265.length : Int) == 0)) else (some false)) = some r := H
             have A87 := Aside0.mk A870
             clear A870
             by_cases c88 : t267 = t288
             ·rw [if_pos c88] at H
              have c88b0 : (t267 == t288) = true := beq_iff_eq.mpr c88
              have c88b1 : (t267 != t288) = false := bne_eq_false_iff_eq.mpr c88
              clear c88
              obtain rfl := Option.some.inj H
              obtain ⟨Ao89, co89, eo89⟩ := Kd.R_slice HO_19.out
              subst eo89
              go_wp2_with (first | ((with_reducible refine gate_callee (f := 55) rfl ?_); refine goesL_ (some 134) rfl rfl Try.func55 (by kernel_rfl) rfl #[.slice Ao89 x19_2.length co89] rfl (by (try simp only [List.map_toArray, List.map_cons, List.map_nil]); first | done | rfl | (simp only [List.length_drop, List.length_take]; rfl)) ?_; (with_reducible refine (incipitref08_Check.calls k2 _ _ x19_2 t286 _ ?side1 ?side2 A68.out).mono ?_); (case side1 => repeat (first | exact (Kd.R_reads' HO_19.out).2.2 | (with_reducible refine Kd.C_alloc ?_ _) | (with_reducible refine Kd.C_drewN ?_ _) | (with_reducible refine Kd.C_drew ?_))); (case side2 => exact (Kd.R_reads' HO_19.out).2.1); rintro e w90 ⟨rfl, hb⟩; refine ⟨_, rfl, ?_⟩; have n0_ := Aside0.mk (Kd.R_below (by (with_reducible repeat (first | apply Kd.R_alloc | apply Kd.R_drewN | apply Kd.R_drew)); exact HO_13.out) hb); have n1_ := Aside0.mk (Kd.R_below (by (with_reducible repeat (first | apply Kd.R_alloc | apply Kd.R_drewN | apply Kd.R_drew)); exact HO_14.out) hb); have n2_ := Aside0.mk (Kd.R_below (by (with_reducible repeat (first | apply Kd.R_alloc | apply Kd.R_drewN | apply Kd.R_drew)); exact HO_16.out) hb); have n3_ := Aside0.mk (Kd.R_below (by (with_reducible repeat (first | apply Kd.R_alloc | apply Kd.R_drewN | apply Kd.R_drew)); exact HO_17.out) hb); have n4_ := Aside0.mk (Kd.R_below (by (with_reducible repeat (first | apply Kd.R_alloc | apply Kd.R_drewN | apply Kd.R_drew)); exact HO_19.out) hb); have n5_ := Aside0.mk (below_step (by repeat (first | (with_reducible first | exact HB.out | apply below_alloc | apply pw_below_drewN | apply below_drew1) | exact HB.out)) hb); clear HO_13; clear HO_14; clear HO_16; clear HO_17; clear HO_19; clear HB; have HO_13 := n0_; have HO_14 := n1_; have HO_16 := n2_; have HO_17 := n3_; have HO_19 := n4_; have HB := n5_; clear n0_ n1_ n2_ n3_ n4_ n5_; (try clear hb); (try clear hb2); (try clear hk); (try clear hi)) | ((with_reducible refine gate_callee (f := 25) rfl ?_); refine goesL_ (some 136) rfl rfl Try.func25 (by kernel_rfl) rfl #[] rfl (by (try simp only [List.map_toArray, List.map_cons, List.map_nil]); first | done | rfl | (simp only [List.length_drop, List.length_take]; rfl)) ?_; (with_reducible refine (incipitlaw08_known.calls k2  true _ A85.out).mono ?_); rintro e w91 ⟨rfl, hb⟩; refine ⟨_, rfl, ?_⟩; have n0_ := Aside0.mk (Kd.R_below (by (with_reducible repeat (first | apply Kd.R_alloc | apply Kd.R_drewN | apply Kd.R_drew)); exact HO_13.out) hb); have n1_ := Aside0.mk (Kd.R_below (by (with_reducible repeat (first | apply Kd.R_alloc | apply Kd.R_drewN | apply Kd.R_drew)); exact HO_14.out) hb); have n2_ := Aside0.mk (Kd.R_below (by (with_reducible repeat (first | apply Kd.R_alloc | apply Kd.R_drewN | apply Kd.R_drew)); exact HO_16.out) hb); have n3_ := Aside0.mk (Kd.R_below (by (with_reducible repeat (first | apply Kd.R_alloc | apply Kd.R_drewN | apply Kd.R_drew)); exact HO_17.out) hb); have n4_ := Aside0.mk (Kd.R_below (by (with_reducible repeat (first | apply Kd.R_alloc | apply Kd.R_drewN | apply Kd.R_drew)); exact HO_19.out) hb); have n5_ := Aside0.mk (below_step (by repeat (first | (with_reducible first | exact HB.out | apply below_alloc | apply pw_below_drewN | apply below_drew1) | exact HB.out)) hb); clear HO_13; clear HO_14; clear HO_16; clear HO_17; clear HO_19; clear HB; have HO_13 := n0_; have HO_14 := n1_; have HO_16 := n2_; have HO_17 := n3_; have HO_19 := n4_; have HB := n5_; clear n0_ n1_ n2_ n3_ n4_ n5_; (try clear hb); (try clear hb2); (try clear hk); (try clear hi)) | (go_at_call 55; (with_reducible refine (incipitref08_Check.calls k2 _ _ x19_2 t288 _ ?side1 ?side2 A87.out).mono ?_); (case side1 => repeat (first | exact (Kd.R_reads' HO_19.out).2.2 | (with_reducible refine Kd.C_alloc ?_ _) | (with_reducible refine Kd.C_drewN ?_ _) | (with_reducible refine Kd.C_drew ?_))); (case side2 => exact (Kd.R_reads' HO_19.out).2.1); rintro e w92 ⟨rfl, hb⟩; have n0_ := Aside0.mk (Kd.R_below (by (with_reducible repeat (first | apply Kd.R_alloc | apply Kd.R_drewN | apply Kd.R_drew)); exact HO_13.out) hb); have n1_ := Aside0.mk (Kd.R_below (by (with_reducible repeat (first | apply Kd.R_alloc | apply Kd.R_drewN | apply Kd.R_drew)); exact HO_14.out) hb); have n2_ := Aside0.mk (Kd.R_below (by (with_reducible repeat (first | apply Kd.R_alloc | apply Kd.R_drewN | apply Kd.R_drew)); exact HO_16.out) hb); have n3_ := Aside0.mk (Kd.R_below (by (with_reducible repeat (first | apply Kd.R_alloc | apply Kd.R_drewN | apply Kd.R_drew)); exact HO_17.out) hb); have n4_ := Aside0.mk (Kd.R_below (by (with_reducible repeat (first | apply Kd.R_alloc | apply Kd.R_drewN | apply Kd.R_drew)); exact HO_19.out) hb); have n5_ := Aside0.mk (below_step (by repeat (first | (with_reducible first | exact HB.out | apply below_alloc | apply pw_below_drewN | apply below_drew1) | exact HB.out)) hb); clear HO_13; clear HO_14; clear HO_16; clear HO_17; clear HO_19; clear HB; have HO_13 := n0_; have HO_14 := n1_; have HO_16 := n2_; have HO_17 := n3_; have HO_19 := n4_; have HB := n5_; clear n0_ n1_ n2_ n3_ n4_ n5_; (try clear hb); (try clear hb2); (try clear hk); (try clear hi); obtain ⟨Ao93, co93, eo93⟩ := Kd.R_slice HO_13.out; subst eo93))
              go_ret
              exact ⟨by first | rfl | (rw [hSL15.out]; first | rfl | simp) | (simp [errW_none, errW_some] <;> rfl) | (simp only [← hji5]; first | rfl | (simp [errW_none, errW_some] <;> rfl)) | (simp [*, errW_none, errW_some] <;> rfl), by repeat (first | (with_reducible first | exact HB.out | apply below_alloc | apply pw_below_drewN | apply below_drew1) | exact HB.out)⟩
             ·rw [if_neg c88] at H
              have c88b0 : (t267 == t288) = false := beq_eq_false_iff_ne.mpr c88
              have c88b1 : (t267 != t288) = true := bne_iff_ne.mpr c88
              exact absurd (HR_.out ▸ H) (by simp)
            ·replace c86 := Bool.eq_false_iff.mpr c86
             subst c86
             have H1 : (some false) = some r := by rw [if_neg (show ¬ (false = true) by decide)] at H; exact H
             clear H
             have H := H1
             clear H1
             exact absurd (HR_.out ▸ H) (by simp)
      ·rw [if_neg c47] at H
       have c47b0 : (t274 == 0) = false := beq_eq_false_iff_ne.mpr c47
       have c47b1 : (t274 != 0) = true := bne_iff_ne.mpr c47
       replace H := Option.bind_eq_some_iff.mp H
       obtain ⟨t279, A940, H⟩ := H
       replace H : (if t279 = true then (if t267 = t274 then (some ((t265.length : Int) == 0)) else (some false)) else (some false)) = some r := H
       have A94 := Aside0.mk A940
       clear A940
       by_cases c95 : t279 = true
       ·subst c95
        have H1 : (if t267 = t274 then (some ((t265.length : Int) == 0)) else (some false)) = some r := by rw [if_pos rfl] at H; exact H
        clear H
        have H := H1
        clear H1
        by_cases c96 : t267 = t274
        ·rw [if_pos c96] at H
         have c96b0 : (t267 == t274) = true := beq_iff_eq.mpr c96
         have c96b1 : (t267 != t274) = false := bne_eq_false_iff_eq.mpr c96
         clear c96
         obtain rfl := Option.some.inj H
         go_wp2_with (first | ((with_reducible refine gate_callee (f := 63) rfl ?_); refine goesL_ (some 76) rfl rfl Try.func63 (by kernel_rfl) rfl #[.slice A1 (l1.take ((ji5) : Int).toNat).length c1] rfl (by (try simp only [List.map_toArray, List.map_cons, List.map_nil]); first | done | (rw [show (l1.take ((ji5) : Int).toNat).length = (ji5).toNat from hSL15.out] <;> rfl) | (simp only [hji5]; rfl) | rfl | (simp only [List.length_drop, List.length_take]; rfl)) ?_; (with_reducible refine (extent_Decode.calls kj10 _ _ (l1.take ((ji5) : Int).toNat) t265 t266 t267 _ ?side1 ?side2 A45.out).mono ?_); (case side1 => repeat (first | exact (Kd.C_below HR234.out HB.out) | (with_reducible refine Kd.C_alloc ?_ _) | (with_reducible refine Kd.C_drewN ?_ _) | (with_reducible refine Kd.C_drew ?_))); (case side2 => exact HC234.out); rintro e w97 ⟨v268, v270, rfl, ho0, ho1, hb⟩; refine ⟨_, rfl, ?_⟩; have n0_ := Aside0.mk (Kd.R_lower ho0 (below_size (by repeat (first | (with_reducible first | exact HB.out | apply below_alloc | apply pw_below_drewN | apply below_drew1) | exact HB.out)))); have n1_ := Aside0.mk (Kd.R_lower ho1 (below_size (by repeat (first | (with_reducible first | exact HB.out | apply below_alloc | apply pw_below_drewN | apply below_drew1) | exact HB.out)))); have n2_ := Aside0.mk (below_step (by repeat (first | (with_reducible first | exact HB.out | apply below_alloc | apply pw_below_drewN | apply below_drew1) | exact HB.out)) hb); clear HB; have HO269 := n0_; have HO271 := n1_; have HB := n2_; clear n0_ n1_ n2_; (try clear hb); (try clear hb2); (try clear hk); (try clear hi); (try clear ho0); (try clear ho1)) | ((with_reducible refine gate_callee (f := 66) rfl ?_); refine goesL_ (some 82) rfl rfl Try.func66 (by kernel_rfl) rfl #[.slice A1 (l1.take ((ji5) : Int).toNat).length c1] rfl (by (try simp only [List.map_toArray, List.map_cons, List.map_nil]); first | done | (rw [show (l1.take ((ji5) : Int).toNat).length = (ji5).toNat from hSL15.out] <;> rfl) | (simp only [hji5]; rfl) | rfl | (simp only [List.length_drop, List.length_take]; rfl)) ?_; (with_reducible refine (varint_GetList.calls _ _ (l1.take ((ji5) : Int).toNat) t272 t273 t274 _ ?side1 ?side2 A46.out).mono ?_); (case side1 => repeat (first | exact (Kd.C_below HR234.out HB.out) | (with_reducible refine Kd.C_alloc ?_ _) | (with_reducible refine Kd.C_drewN ?_ _) | (with_reducible refine Kd.C_drew ?_))); (case side2 => exact HC234.out); rintro e w98 ⟨v275, v277, rfl, ho0, ho1, hb⟩; refine ⟨_, rfl, ?_⟩; have n0_ := Aside0.mk (Kd.R_below (by (with_reducible repeat (first | apply Kd.R_alloc | apply Kd.R_drewN | apply Kd.R_drew)); exact HO269.out) hb); have n1_ := Aside0.mk (Kd.R_elder' (by (with_reducible repeat (first | apply Kd.R_alloc | apply Kd.R_drewN | apply Kd.R_drew)); exact HO271.out) (Kd.R_base ho1) hb); have n2_ := Aside0.mk (Kd.R_lower ho0 (below_size (by repeat (first | (with_reducible first | exact HB.out | apply below_alloc | apply pw_below_drewN | apply below_drew1) | exact HB.out)))); have n3_ := Aside0.mk (Kd.R_lower (Kd.R_new' ho1 (Kd.R_lt (by (with_reducible repeat (first | apply Kd.R_alloc | apply Kd.R_drewN | apply Kd.R_drew)); exact HO271.out))) (below_size (by repeat (first | (with_reducible first | exact HB.out | apply below_alloc | apply pw_below_drewN | apply below_drew1) | exact HB.out)))); have n4_ := Aside0.mk (below_step (by repeat (first | (with_reducible first | exact HB.out | apply below_alloc | apply pw_below_drewN | apply below_drew1) | exact HB.out)) hb); clear HO269; clear HO271; clear HB; have HO269 := n0_; have HO271 := n1_; have HO276 := n2_; have HO278 := n3_; have HB := n4_; clear n0_ n1_ n2_ n3_ n4_; (try clear hb); (try clear hb2); (try clear hk); (try clear hi); (try clear ho0); (try clear ho1)) | ((with_reducible refine gate_callee (f := 25) rfl ?_); refine goesL_ (some 88) rfl rfl Try.func25 (by kernel_rfl) rfl #[] rfl (by (try simp only [List.map_toArray, List.map_cons, List.map_nil]); first | done | rfl | (simp only [List.length_drop, List.length_take]; rfl)) ?_; (with_reducible refine (incipitlaw08_known.calls kj10  true _ A94.out).mono ?_); rintro e w99 ⟨rfl, hb⟩; refine ⟨_, rfl, ?_⟩; have n0_ := Aside0.mk (Kd.R_below (by (with_reducible repeat (first | apply Kd.R_alloc | apply Kd.R_drewN | apply Kd.R_drew)); exact HO269.out) hb); have n1_ := Aside0.mk (Kd.R_below (by (with_reducible repeat (first | apply Kd.R_alloc | apply Kd.R_drewN | apply Kd.R_drew)); exact HO271.out) hb); have n2_ := Aside0.mk (Kd.R_below (by (with_reducible repeat (first | apply Kd.R_alloc | apply Kd.R_drewN | apply Kd.R_drew)); exact HO276.out) hb); have n3_ := Aside0.mk (Kd.R_below (by (with_reducible repeat (first | apply Kd.R_alloc | apply Kd.R_drewN | apply Kd.R_drew)); exact HO278.out) hb); have n4_ := Aside0.mk (below_step (by repeat (first | (with_reducible first | exact HB.out | apply below_alloc | apply pw_below_drewN | apply below_drew1) | exact HB.out)) hb); clear HO269; clear HO271; clear HO276; clear HO278; clear HB; have HO269 := n0_; have HO271 := n1_; have HO276 := n2_; have HO278 := n3_; have HB := n4_; clear n0_ n1_ n2_ n3_ n4_; (try clear hb); (try clear hb2); (try clear hk); (try clear hi); obtain ⟨Ao100, co100, eo100⟩ := Kd.R_slice HO269.out; subst eo100))
         go_ret
         exact ⟨by first | rfl | (rw [hSL15.out]; first | rfl | simp) | (simp [errW_none, errW_some] <;> rfl) | (simp only [← hji5]; first | rfl | (simp [errW_none, errW_some] <;> rfl)) | (simp [*, errW_none, errW_some] <;> rfl), by repeat (first | (with_reducible first | exact HB.out | apply below_alloc | apply pw_below_drewN | apply below_drew1) | exact HB.out)⟩
        ·rw [if_neg c96] at H
         have c96b0 : (t267 == t274) = false := beq_eq_false_iff_ne.mpr c96
         have c96b1 : (t267 != t274) = true := bne_iff_ne.mpr c96
         exact absurd (HR_.out ▸ H) (by simp)
       ·replace c95 := Bool.eq_false_iff.mpr c95
        subst c95
        have H1 : (some false) = some r := by rw [if_neg (show ¬ (false = true) by decide)] at H; exact H
        clear H
        have H := H1
        clear H1
        exact absurd (HR_.out ▸ H) (by simp)
   ·rw [if_neg c10] at H
    have c10b0 : (t236 == t239) = false := beq_eq_false_iff_ne.mpr c10
    have c10b1 : (t236 != t239) = true := bne_iff_ne.mpr c10
    exact absurd (HR_.out ▸ H) (by simp)
  ·rw [if_neg c7] at H
   exact absurd H (by simp)
 ·rw [if_neg c6] at H
  exact absurd H (by simp)

end Go.Proofs.Ytneliajeokajbaa.PExtB
