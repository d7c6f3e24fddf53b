-- Written by a program of this session (wip/tools/pp.sh, on the pattern of the kit's print): not typed by hand.
import Derived.Test.YthkofhidhghmmaaPSufSx0
import Derived.Test.YthkofhidhghmmaaPSufSx1
import Derived.Test.YthkofhidhghmmaaPSufSx3
import Derived.Test.YthkofhidhghmmaaPSufSx4
import Derived.Test.YthkofhidhghmmaaPSufSx5
import Derived.Test.YthkofhidhghmmaaPSufSx6
namespace Go.Proofs.Ythkofhidhghmmaa.PSufS
open Go.RowKit Go.Proofs.YthkofhidhghmmaaW.PrintWords Go.Proofs.YthkofhidhghmmaaW.PrintLast Go.Proofs.YthkofhidhghmmaaW.PrintMore
attribute [local go_sem] max2_int min2_int max_two min_two max_three min_three max_four min_four   -- for this text's walks alone
set_option linter.unusedVariables false
set_option linter.unusedSimpArgs false

/-! ### incipitlaw15_SuffixSorts: function 6 -/
mutual
def incipitlaw15_SuffixSorts.j0 : Nat → Int → Int → List Int → List Int → List Int → Bool → Option (Bool)
 | 0, _, _, _, _, _, _ => none
 | k + 1, x2, x3, x9, x12, x13, x78 => if x78 = true then (some false) else (incipitlaw15_SuffixSorts.l0 k x2 x3 x9 x12 x13 1)
def incipitlaw15_SuffixSorts.l0 : Nat → Int → Int → List Int → List Int → List Int → Int → Option (Bool)
 | 0, _, _, _, _, _, _ => none
 | k + 1, x2, x3, x9, x12, x13, x15 => if x15 < (x13.length : Int) then (if 0 ≤ x15 then (if 0 ≤ (wrap64 (x15 - 1)) then (if (wrap64 (x15 - 1)) < (x12.length : Int) then (if x15 < (x12.length : Int) then ((incipitref15_Common.f k x9 (rd x12 (wrap64 (x15 - 1))) (rd x12 x15)).bind fun t286 => (if (rd x13 x15) = t286 then (incipitlaw15_SuffixSorts.l0 k x2 x3 x9 x12 x13 (wrap64 (x15 + 1))) else (some false))) else (none)) else (none)) else (none)) else (none)) else (if (IntKind.u64.wrap ((x9.length : Int))) = 0 then (none) else ((suffix_Less.f k x9 (wrap64 (Int.tmod (IntKind.u64.wrap (x2)) (IntKind.u64.wrap ((x9.length : Int))))) (wrap64 (Int.tmod (IntKind.u64.wrap (x3)) (IntKind.u64.wrap ((x9.length : Int)))))).bind fun bt287 => ((suffix_Common.f k x9 (wrap64 (Int.tmod (IntKind.u64.wrap (x2)) (IntKind.u64.wrap ((x9.length : Int))))) (wrap64 (Int.tmod (IntKind.u64.wrap (x3)) (IntKind.u64.wrap ((x9.length : Int)))))).bind fun bt289 => ((some (([] : List Int) : List Int)).bind fun y291 => (if y291.length + x12.length < 17592186044416 then ((some (y291 ++ x12 : List Int)).bind fun y294 => (if 0 ≤ (wrap64 (Int.tmod (IntKind.u64.wrap (x3)) (IntKind.u64.wrap ((x9.length : Int))))) then (if (wrap64 (Int.tmod (IntKind.u64.wrap (x3)) (IntKind.u64.wrap ((x9.length : Int))))) < (y294.length : Int) then (if 0 ≤ (wrap64 (Int.tmod (IntKind.u64.wrap (x2)) (IntKind.u64.wrap ((x9.length : Int))))) then (if (wrap64 (Int.tmod (IntKind.u64.wrap (x2)) (IntKind.u64.wrap ((x9.length : Int))))) < (y294.length : Int) then ((some ((y294.set ((wrap64 (Int.tmod (IntKind.u64.wrap (x2)) (IntKind.u64.wrap ((x9.length : Int))))) : Int).toNat (rd y294 (wrap64 (Int.tmod (IntKind.u64.wrap (x3)) (IntKind.u64.wrap ((x9.length : Int))))))).set ((wrap64 (Int.tmod (IntKind.u64.wrap (x3)) (IntKind.u64.wrap ((x9.length : Int))))) : Int).toNat (rd y294 (wrap64 (Int.tmod (IntKind.u64.wrap (x2)) (IntKind.u64.wrap ((x9.length : Int)))))) : List Int)).bind fun y300 => ((suffix_Commons.f k x9 y300).bind fun bt301 => ((incipitlaw15_known.f k).bind fun t305 => (if t305 = true then (if bt287.2 = 0 then ((incipitref15_Less.f k x9 (wrap64 (Int.tmod (IntKind.u64.wrap (x2)) (IntKind.u64.wrap ((x9.length : Int))))) (wrap64 (Int.tmod (IntKind.u64.wrap (x3)) (IntKind.u64.wrap ((x9.length : Int)))))).bind fun t306 => (if (bt287.1 == t306) = true then (if bt289.2 = 0 then ((incipitref15_Common.f k x9 (wrap64 (Int.tmod (IntKind.u64.wrap (x2)) (IntKind.u64.wrap ((x9.length : Int))))) (wrap64 (Int.tmod (IntKind.u64.wrap (x3)) (IntKind.u64.wrap ((x9.length : Int)))))).bind fun t307 => (if bt289.1 = t307 then ((suffix_Right.f k x9 y300).bind fun t308 => (if (t308 == ((wrap64 (Int.tmod (IntKind.u64.wrap (x2)) (IntKind.u64.wrap ((x9.length : Int))))) == (wrap64 (Int.tmod (IntKind.u64.wrap (x3)) (IntKind.u64.wrap ((x9.length : Int))))))) = true then (some ((bt301.2 == 0) == ((wrap64 (Int.tmod (IntKind.u64.wrap (x2)) (IntKind.u64.wrap ((x9.length : Int))))) == (wrap64 (Int.tmod (IntKind.u64.wrap (x3)) (IntKind.u64.wrap ((x9.length : Int)))))))) else (some false))) else (some false))) else (some false)) else (some false))) else (some false)) else (some false))))) else (none)) else (none)) else (none)) else (none))) else (none))))))
end
def incipitlaw15_SuffixSorts.f (k : Nat) (l0 : List Int) (a1 : Int) (a2 : Int) (a3 : Int) : Option (Bool) := (incipitlaw15_Text.f k l0 a1).bind fun t265 => ((suffix_Sort.f k t265).bind fun bt268 => ((incipitref15_Sort.f k t265).bind fun t272 => ((suffix_Commons.f k t265 t272).bind fun bt275 => (if bt268.2 = 0 then ((incipitref06_Same.f k bt268.1 t272).bind fun t279 => (if t279 = true then (if 0 < (bt268.1.length : Int) then (if (rd bt268.1 0) = (wrap64 ((t265.length : Int) - 1)) then ((suffix_Right.f k t265 t272).bind fun t281 => (if t281 = true then (if bt275.2 = 0 then (if (bt275.1.length : Int) = (t265.length : Int) then (if 0 < (bt275.1.length : Int) then (incipitlaw15_SuffixSorts.j0 k a2 a3 t265 t272 bt275.1 ((rd bt275.1 0) != 0)) else (none)) else (incipitlaw15_SuffixSorts.j0 k a2 a3 t265 t272 bt275.1 true)) else (incipitlaw15_SuffixSorts.j0 k a2 a3 t265 t272 bt275.1 true)) else (incipitlaw15_SuffixSorts.j0 k a2 a3 t265 t272 bt275.1 true))) else (incipitlaw15_SuffixSorts.j0 k a2 a3 t265 t272 bt275.1 true)) else (none)) else (incipitlaw15_SuffixSorts.j0 k a2 a3 t265 t272 bt275.1 true))) else (incipitlaw15_SuffixSorts.j0 k a2 a3 t265 t272 bt275.1 true)))))
theorem incipitlaw15_SuffixSorts.mono_l : ∀ k, (∀ y0 y1 y2 y3 y4 y5, LeO (incipitlaw15_SuffixSorts.j0 k y0 y1 y2 y3 y4 y5) (incipitlaw15_SuffixSorts.j0 (k + 1) y0 y1 y2 y3 y4 y5)) ∧ (∀ y0 y1 y2 y3 y4 y5, LeO (incipitlaw15_SuffixSorts.l0 k y0 y1 y2 y3 y4 y5) (incipitlaw15_SuffixSorts.l0 (k + 1) y0 y1 y2 y3 y4 y5))
 | 0 => ⟨fun _ _ _ _ _ _ r h => by simp [incipitlaw15_SuffixSorts.j0] at h, fun _ _ _ _ _ _ r h => by simp [incipitlaw15_SuffixSorts.l0] at h⟩
 | k + 1 => by
  obtain ⟨ih0, ih1⟩ := incipitlaw15_SuffixSorts.mono_l k
  refine ⟨?_, ?_⟩
  ·intro y0 y1 y2 y3 y4 y5
   unfold incipitlaw15_SuffixSorts.j0
   repeat' first
   | (with_reducible exact ih0 _ _ _ _ _ _)
   | (with_reducible exact ih1 _ _ _ _ _ _)
   | (with_reducible exact incipitlaw15_Text.mono _ _ _)
   | (with_reducible exact incipitlaw15_known.mono _)
   | (with_reducible exact incipitref06_Same.mono _ _ _)
   | (with_reducible exact incipitref15_Common.mono _ _ _ _)
   | (with_reducible exact incipitref15_Less.mono _ _ _ _)
   | (with_reducible exact incipitref15_Sort.mono _ _)
   | (with_reducible exact suffix_Common.mono _ _ _ _)
   | (with_reducible exact suffix_Commons.mono _ _ _)
   | (with_reducible exact suffix_Less.mono _ _ _ _)
   | (with_reducible exact suffix_Right.mono _ _ _)
   | (with_reducible exact suffix_Sort.mono _ _)
   | (with_reducible exact LeO.refl _)
   | (with_reducible exact LeO.none _)
   | (with_reducible refine LeO.ite ?_ ?_)
   | (with_reducible refine LeO.bind ?_ (fun _ => ?_))
   | exact ih0 _ _ _ _ _ _
   | exact ih1 _ _ _ _ _ _
   | exact incipitlaw15_Text.mono _ _ _
   | exact incipitlaw15_known.mono _
   | exact incipitref06_Same.mono _ _ _
   | exact incipitref15_Common.mono _ _ _ _
   | exact incipitref15_Less.mono _ _ _ _
   | exact incipitref15_Sort.mono _ _
   | exact suffix_Common.mono _ _ _ _
   | exact suffix_Commons.mono _ _ _
   | exact suffix_Less.mono _ _ _ _
   | exact suffix_Right.mono _ _ _
   | exact suffix_Sort.mono _ _
   | exact LeO.none _
   | refine LeO.ite ?_ ?_
   | refine LeO.bind ?_ (fun _ => ?_)
  ·intro y0 y1 y2 y3 y4 y5
   unfold incipitlaw15_SuffixSorts.l0
   repeat' first
   | (with_reducible exact ih0 _ _ _ _ _ _)
   | (with_reducible exact ih1 _ _ _ _ _ _)
   | (with_reducible exact incipitlaw15_Text.mono _ _ _)
   | (with_reducible exact incipitlaw15_known.mono _)
   | (with_reducible exact incipitref06_Same.mono _ _ _)
   | (with_reducible exact incipitref15_Common.mono _ _ _ _)
   | (with_reducible exact incipitref15_Less.mono _ _ _ _)
   | (with_reducible exact incipitref15_Sort.mono _ _)
   | (with_reducible exact suffix_Common.mono _ _ _ _)
   | (with_reducible exact suffix_Commons.mono _ _ _)
   | (with_reducible exact suffix_Less.mono _ _ _ _)
   | (with_reducible exact suffix_Right.mono _ _ _)
   | (with_reducible exact suffix_Sort.mono _ _)
   | (with_reducible exact LeO.refl _)
   | (with_reducible exact LeO.none _)
   | (with_reducible refine LeO.ite ?_ ?_)
   | (with_reducible refine LeO.bind ?_ (fun _ => ?_))
   | exact ih0 _ _ _ _ _ _
   | exact ih1 _ _ _ _ _ _
   | exact incipitlaw15_Text.mono _ _ _
   | exact incipitlaw15_known.mono _
   | exact incipitref06_Same.mono _ _ _
   | exact incipitref15_Common.mono _ _ _ _
   | exact incipitref15_Less.mono _ _ _ _
   | exact incipitref15_Sort.mono _ _
   | exact suffix_Common.mono _ _ _ _
   | exact suffix_Commons.mono _ _ _
   | exact suffix_Less.mono _ _ _ _
   | exact suffix_Right.mono _ _ _
   | exact suffix_Sort.mono _ _
   | exact LeO.none _
   | refine LeO.ite ?_ ?_
   | refine LeO.bind ?_ (fun _ => ?_)
theorem incipitlaw15_SuffixSorts.mono : ∀ a0 a1 a2 a3 k, LeO (incipitlaw15_SuffixSorts.f k a0 a1 a2 a3) (incipitlaw15_SuffixSorts.f (k + 1) a0 a1 a2 a3) := by
 intro a0 a1 a2 a3 k
 obtain ⟨ih0, ih1⟩ := incipitlaw15_SuffixSorts.mono_l k
 unfold incipitlaw15_SuffixSorts.f
 repeat' first
   | (with_reducible exact ih0 _ _ _ _ _ _)
   | (with_reducible exact ih1 _ _ _ _ _ _)
   | (with_reducible exact incipitlaw15_Text.mono _ _ _)
   | (with_reducible exact incipitlaw15_known.mono _)
   | (with_reducible exact incipitref06_Same.mono _ _ _)
   | (with_reducible exact incipitref15_Common.mono _ _ _ _)
   | (with_reducible exact incipitref15_Less.mono _ _ _ _)
   | (with_reducible exact incipitref15_Sort.mono _ _)
   | (with_reducible exact suffix_Common.mono _ _ _ _)
   | (with_reducible exact suffix_Commons.mono _ _ _)
   | (with_reducible exact suffix_Less.mono _ _ _ _)
   | (with_reducible exact suffix_Right.mono _ _ _)
   | (with_reducible exact suffix_Sort.mono _ _)
   | (with_reducible exact LeO.refl _)
   | (with_reducible exact LeO.none _)
   | (with_reducible refine LeO.ite ?_ ?_)
   | (with_reducible refine LeO.bind ?_ (fun _ => ?_))
   | exact ih0 _ _ _ _ _ _
   | exact ih1 _ _ _ _ _ _
   | exact incipitlaw15_Text.mono _ _ _
   | exact incipitlaw15_known.mono _
   | exact incipitref06_Same.mono _ _ _
   | exact incipitref15_Common.mono _ _ _ _
   | exact incipitref15_Less.mono _ _ _ _
   | exact incipitref15_Sort.mono _ _
   | exact suffix_Common.mono _ _ _ _
   | exact suffix_Commons.mono _ _ _
   | exact suffix_Less.mono _ _ _ _
   | exact suffix_Right.mono _ _ _
   | exact suffix_Sort.mono _ _
   | exact LeO.none _
   | refine LeO.ite ?_ ?_
   | refine LeO.bind ?_ (fun _ => ?_)
def incipitlaw15_SuffixSorts.T10 : Bool × List (List Nat × List Nat) := (true, [([], []), ([], []), ([0, 1], [0, 1]), ([2], [2]), ([], []), ([], []), ([], []), ([6], [6]), ([5, 7], [5, 7]), ([8], [8]), ([], []), ([], []), ([10, 11], [10, 11]), ([12], [12]), ([4, 9, 13], [4, 9, 13]), ([3, 14], [3, 14])])
def incipitlaw15_SuffixSorts.B10 : List Nat := [0, 0, 3, 7, 0, 0, 0, 64, 224, 480, 0, 0, 3072, 7168, 16368, 32767]
theorem incipitlaw15_SuffixSorts.tab10 : rtab .any (opsOf Try.f6 10) = incipitlaw15_SuffixSorts.T10 := by kernel_rfl
theorem incipitlaw15_SuffixSorts.bits10 : waitsOk incipitlaw15_SuffixSorts.T10.2 incipitlaw15_SuffixSorts.B10 = true := by kernel_rfl
def incipitlaw15_SuffixSorts.T12 : Bool × List (List Nat × List Nat) := (true, [([], []), ([0], [0]), ([], []), ([2], [2]), ([3], [3]), ([1, 4], [1, 4]), ([5], [5]), ([], []), ([7], [7]), ([], []), ([9], [9]), ([10], [10]), ([8, 11], [8, 11]), ([12], [12]), ([6, 0, 1, 2, 3, 4, 5, 6], [0, 6]), ([13, 14, 0, 1, 2, 3, 4, 5, 6, 7, 8, 9, 10, 11, 12, 13, 14], [7, 13])])
def incipitlaw15_SuffixSorts.B12 : List Nat := [0, 1, 0, 4, 12, 31, 63, 0, 128, 0, 512, 1536, 3968, 8064, 127, 32767]
theorem incipitlaw15_SuffixSorts.tab12 : rtab .any (opsOf Try.f6 12) = incipitlaw15_SuffixSorts.T12 := by kernel_rfl
theorem incipitlaw15_SuffixSorts.bits12 : waitsOk incipitlaw15_SuffixSorts.T12.2 incipitlaw15_SuffixSorts.B12 = true := by kernel_rfl
def incipitlaw15_SuffixSorts.T16 : Bool × List (List Nat × List Nat) := (true, [([], []), ([], []), ([], []), ([], []), ([], []), ([], []), ([4, 5], [4, 5]), ([6], [6]), ([], []), ([], []), ([8, 9], [8, 9]), ([10], [10]), ([0, 1, 0, 1, 4, 5, 6, 7, 11], [0, 1]), ([12, 7, 0, 1, 4, 5, 6, 7, 11], [7, 12]), ([2, 3, 0, 1, 2, 3, 4, 5, 6, 7, 8, 9, 10, 11, 12, 13], [2, 3]), ([14, 11, 13, 0, 1, 2, 3, 4, 5, 6, 7, 8, 9, 10, 11, 12, 13], [11, 14])])
def incipitlaw15_SuffixSorts.B16 : List Nat := [0, 0, 0, 0, 0, 0, 48, 112, 0, 0, 768, 1792, 4083, 8179, 16383, 32767]
theorem incipitlaw15_SuffixSorts.tab16 : rtab .any (opsOf Try.f6 16) = incipitlaw15_SuffixSorts.T16 := by kernel_rfl
theorem incipitlaw15_SuffixSorts.bits16 : waitsOk incipitlaw15_SuffixSorts.T16.2 incipitlaw15_SuffixSorts.B16 = true := by kernel_rfl
set_option maxHeartbeats 8000000 in
set_option maxRecDepth 100000 in
theorem incipitlaw15_SuffixSorts.calls (k : Nat) (A0 : Option Addr) (c0 : Nat) (l0 : List Int) (a1 : Int) (a2 : Int) (a3 : Int) (r : Bool) (w : World) (hr0 : Kd.C (Kd.int .i64) w A0 l0.length l0) (hc0 : l0.length ≤ c0) (h : incipitlaw15_SuffixSorts.f k l0 a1 a2 a3 = some r) (hr_ : r = true) :
  Calls Try.prog 6 #[.slice A0 l0.length c0, .int .i64 a1, .int .i64 a2, .int .i64 a3] w fun e w' => e = .returned (.bool r) ∧ Below w.heap.size w w' := by
 have HR0 := Aside0.mk hr0
 have HC0 := Aside0.mk hc0
 clear hr0 hc0
 have HB := Aside0.mk (Below.refl w.heap.size w)
 have HR_ := Aside0.mk hr_
 clear hr_
 have H : ((incipitlaw15_Text.f k l0 a1).bind fun t265 => ((suffix_Sort.f k t265).bind fun bt268 => ((incipitref15_Sort.f k t265).bind fun t272 => ((suffix_Commons.f k t265 t272).bind fun bt275 => (if bt268.2 = 0 then ((incipitref06_Same.f k bt268.1 t272).bind fun t279 => (if t279 = true then (if 0 < (bt268.1.length : Int) then (if (rd bt268.1 0) = (wrap64 ((t265.length : Int) - 1)) then ((suffix_Right.f k t265 t272).bind fun t281 => (if t281 = true then (if bt275.2 = 0 then (if (bt275.1.length : Int) = (t265.length : Int) then (if 0 < (bt275.1.length : Int) then (incipitlaw15_SuffixSorts.j0 k a2 a3 t265 t272 bt275.1 ((rd bt275.1 0) != 0)) else (none)) else (incipitlaw15_SuffixSorts.j0 k a2 a3 t265 t272 bt275.1 true)) else (incipitlaw15_SuffixSorts.j0 k a2 a3 t265 t272 bt275.1 true)) else (incipitlaw15_SuffixSorts.j0 k a2 a3 t265 t272 bt275.1 true))) else (incipitlaw15_SuffixSorts.j0 k a2 a3 t265 t272 bt275.1 true)) else (none)) else (incipitlaw15_SuffixSorts.j0 k a2 a3 t265 t272 bt275.1 true))) else (incipitlaw15_SuffixSorts.j0 k a2 a3 t265 t272 bt275.1 true)))))) = some r := h
 clear h
 replace H := Option.bind_eq_some_iff.mp H
 obtain ⟨t265, A50, H⟩ := H
 replace H : ((suffix_Sort.f k t265).bind fun bt268 => ((incipitref15_Sort.f k t265).bind fun t272 => ((suffix_Commons.f k t265 t272).bind fun bt275 => (if bt268.2 = 0 then ((incipitref06_Same.f k bt268.1 t272).bind fun t279 => (if t279 = true then (if 0 < (bt268.1.length : Int) then (if (rd bt268.1 0) = (wrap64 ((t265.length : Int) - 1)) then ((suffix_Right.f k t265 t272).bind fun t281 => (if t281 = true then (if bt275.2 = 0 then (if (bt275.1.length : Int) = (t265.length : Int) then (if 0 < (bt275.1.length : Int) then (incipitlaw15_SuffixSorts.j0 k a2 a3 t265 t272 bt275.1 ((rd bt275.1 0) != 0)) else (none)) else (incipitlaw15_SuffixSorts.j0 k a2 a3 t265 t272 bt275.1 true)) else (incipitlaw15_SuffixSorts.j0 k a2 a3 t265 t272 bt275.1 true)) else (incipitlaw15_SuffixSorts.j0 k a2 a3 t265 t272 bt275.1 true))) else (incipitlaw15_SuffixSorts.j0 k a2 a3 t265 t272 bt275.1 true)) else (none)) else (incipitlaw15_SuffixSorts.j0 k a2 a3 t265 t272 bt275.1 true))) else (incipitlaw15_SuffixSorts.j0 k a2 a3 t265 t272 bt275.1 true))))) = some r := H
 have A5 := Aside0.mk A50
 clear A50
 replace H := Option.bind_eq_some_iff.mp H
 obtain ⟨⟨t268, t269⟩, A60, H⟩ := H
 replace H : ((incipitref15_Sort.f k t265).bind fun t272 => ((suffix_Commons.f k t265 t272).bind fun bt275 => (if t269 = 0 then ((incipitref06_Same.f k t268 t272).bind fun t279 => (if t279 = true then (if 0 < (t268.length : Int) then (if (rd t268 0) = (wrap64 ((t265.length : Int) - 1)) then ((suffix_Right.f k t265 t272).bind fun t281 => (if t281 = true then (if bt275.2 = 0 then (if (bt275.1.length : Int) = (t265.length : Int) then (if 0 < (bt275.1.length : Int) then (incipitlaw15_SuffixSorts.j0 k a2 a3 t265 t272 bt275.1 ((rd bt275.1 0) != 0)) else (none)) else (incipitlaw15_SuffixSorts.j0 k a2 a3 t265 t272 bt275.1 true)) else (incipitlaw15_SuffixSorts.j0 k a2 a3 t265 t272 bt275.1 true)) else (incipitlaw15_SuffixSorts.j0 k a2 a3 t265 t272 bt275.1 true))) else (incipitlaw15_SuffixSorts.j0 k a2 a3 t265 t272 bt275.1 true)) else (none)) else (incipitlaw15_SuffixSorts.j0 k a2 a3 t265 t272 bt275.1 true))) else (incipitlaw15_SuffixSorts.j0 k a2 a3 t265 t272 bt275.1 true)))) = some r := H
 have A6 := Aside0.mk A60
 clear A60
 replace H := Option.bind_eq_some_iff.mp H
 obtain ⟨t272, A70, H⟩ := H
 replace H : ((suffix_Commons.f k t265 t272).bind fun bt275 => (if t269 = 0 then ((incipitref06_Same.f k t268 t272).bind fun t279 => (if t279 = true then (if 0 < (t268.length : Int) then (if (rd t268 0) = (wrap64 ((t265.length : Int) - 1)) then ((suffix_Right.f k t265 t272).bind fun t281 => (if t281 = true then (if bt275.2 = 0 then (if (bt275.1.length : Int) = (t265.length : Int) then (if 0 < (bt275.1.length : Int) then (incipitlaw15_SuffixSorts.j0 k a2 a3 t265 t272 bt275.1 ((rd bt275.1 0) != 0)) else (none)) else (incipitlaw15_SuffixSorts.j0 k a2 a3 t265 t272 bt275.1 true)) else (incipitlaw15_SuffixSorts.j0 k a2 a3 t265 t272 bt275.1 true)) else (incipitlaw15_SuffixSorts.j0 k a2 a3 t265 t272 bt275.1 true))) else (incipitlaw15_SuffixSorts.j0 k a2 a3 t265 t272 bt275.1 true)) else (none)) else (incipitlaw15_SuffixSorts.j0 k a2 a3 t265 t272 bt275.1 true))) else (incipitlaw15_SuffixSorts.j0 k a2 a3 t265 t272 bt275.1 true))) = some r := H
 have A7 := Aside0.mk A70
 clear A70
 replace H := Option.bind_eq_some_iff.mp H
 obtain ⟨⟨t275, t276⟩, A80, H⟩ := H
 replace H : (if t269 = 0 then ((incipitref06_Same.f k t268 t272).bind fun t279 => (if t279 = true then (if 0 < (t268.length : Int) then (if (rd t268 0) = (wrap64 ((t265.length : Int) - 1)) then ((suffix_Right.f k t265 t272).bind fun t281 => (if t281 = true then (if t276 = 0 then (if (t275.length : Int) = (t265.length : Int) then (if 0 < (t275.length : Int) then (incipitlaw15_SuffixSorts.j0 k a2 a3 t265 t272 t275 ((rd t275 0) != 0)) else (none)) else (incipitlaw15_SuffixSorts.j0 k a2 a3 t265 t272 t275 true)) else (incipitlaw15_SuffixSorts.j0 k a2 a3 t265 t272 t275 true)) else (incipitlaw15_SuffixSorts.j0 k a2 a3 t265 t272 t275 true))) else (incipitlaw15_SuffixSorts.j0 k a2 a3 t265 t272 t275 true)) else (none)) else (incipitlaw15_SuffixSorts.j0 k a2 a3 t265 t272 t275 true))) else (incipitlaw15_SuffixSorts.j0 k a2 a3 t265 t272 t275 true)) = some r := H
 have A8 := Aside0.mk A80
 clear A80
 have HC9 := Aside0.mk H
 clear H
 go_enter Try.func6, Try.ntmps6
 go_upto_region 5 with (first | ((with_reducible refine gate_callee (f := 20) rfl ?_); refine goesL_ (some 25) rfl rfl Try.func20 (by kernel_rfl) rfl #[.slice A0 l0.length c0, .int .i64 a1] rfl (by (try simp only [List.map_toArray, List.map_cons, List.map_nil]); first | done | rfl | (simp only [List.length_drop, List.length_take]; rfl)) ?_; (with_reducible refine (incipitlaw15_Text.calls k _ _ l0 a1 t265 _ ?side1 ?side2 A5.out).mono ?_); (case side1 => repeat (first | exact HR0.out | (with_reducible refine Kd.C_alloc ?_ _) | (with_reducible refine Kd.C_drewN ?_ _) | (with_reducible refine Kd.C_drew ?_))); (case side2 => exact HC0.out); rintro e w10 ⟨v266, rfl, ho0, hb⟩; refine ⟨_, rfl, ?_⟩; have n0_ := Aside0.mk (Kd.R_lower ho0 (below_size (by repeat (first | (with_reducible first | exact HB.out | apply below_alloc | apply pw_below_drewN | apply below_drew1) | exact HB.out)))); have n1_ := Aside0.mk (below_step (by repeat (first | (with_reducible first | exact HB.out | apply below_alloc | apply pw_below_drewN | apply below_drew1) | exact HB.out)) hb); clear HB; have HO267 := n0_; have HB := n1_; clear n0_ n1_; (try clear hb); (try clear hb2); (try clear hk); (try clear hi); (try clear ho0); obtain ⟨Ao11, co11, eo11⟩ := Kd.R_slice HO267.out; subst eo11) | ((with_reducible refine gate_callee (f := 18) rfl ?_); refine goesL_ (some 28) rfl rfl Try.func18 (by kernel_rfl) rfl #[.slice Ao11 t265.length co11] rfl (by (try simp only [List.map_toArray, List.map_cons, List.map_nil]); first | done | rfl | (simp only [List.length_drop, List.length_take]; rfl)) ?_; (with_reducible refine (suffix_Sort.calls k _ _ t265 t268 t269 _ ?side1 ?side2 A6.out).mono ?_); (case side1 => repeat (first | exact (Kd.R_reads' HO267.out).2.2 | (with_reducible refine Kd.C_alloc ?_ _) | (with_reducible refine Kd.C_drewN ?_ _) | (with_reducible refine Kd.C_drew ?_))); (case side2 => exact (Kd.R_reads' HO267.out).2.1); rintro e w12 ⟨v270, rfl, ho0, hb⟩; refine ⟨_, rfl, ?_⟩; have n0_ := Aside0.mk (Kd.R_elder' (by (with_reducible repeat (first | apply Kd.R_alloc | apply Kd.R_drewN | apply Kd.R_drew)); exact HO267.out) (Kd.R_base ho0) hb); have n1_ := Aside0.mk (Kd.R_lower (Kd.R_new' ho0 (Kd.R_lt (by (with_reducible repeat (first | apply Kd.R_alloc | apply Kd.R_drewN | apply Kd.R_drew)); exact HO267.out))) (below_size (by repeat (first | (with_reducible first | exact HB.out | apply below_alloc | apply pw_below_drewN | apply below_drew1) | exact HB.out)))); have n2_ := Aside0.mk (below_step (by repeat (first | (with_reducible first | exact HB.out | apply below_alloc | apply pw_below_drewN | apply below_drew1) | exact HB.out)) hb); clear HO267; clear HB; have HO267 := n0_; have HO271 := n1_; have HB := n2_; clear n0_ n1_ n2_; (try clear hb); (try clear hb2); (try clear hk); (try clear hi); (try clear ho0)) | ((with_reducible refine gate_callee (f := 26) rfl ?_); refine goesL_ (some 32) rfl rfl Try.func26 (by kernel_rfl) rfl #[.slice Ao11 t265.length co11] rfl (by (try simp only [List.map_toArray, List.map_cons, List.map_nil]); first | done | rfl | (simp only [List.length_drop, List.length_take]; rfl)) ?_; (with_reducible refine (incipitref15_Sort.calls k _ _ t265 t272 _ ?side1 ?side2 A7.out).mono ?_); (case side1 => repeat (first | exact (Kd.R_reads' HO267.out).2.2 | (with_reducible refine Kd.C_alloc ?_ _) | (with_reducible refine Kd.C_drewN ?_ _) | (with_reducible refine Kd.C_drew ?_))); (case side2 => exact (Kd.R_reads' HO267.out).2.1); rintro e w13 ⟨v273, rfl, ho0, hb⟩; refine ⟨_, rfl, ?_⟩; have n0_ := Aside0.mk (Kd.R_elder' (by (with_reducible repeat (first | apply Kd.R_alloc | apply Kd.R_drewN | apply Kd.R_drew)); exact HO267.out) (Kd.R_base ho0) hb); have n1_ := Aside0.mk (Kd.R_elder' (by (with_reducible repeat (first | apply Kd.R_alloc | apply Kd.R_drewN | apply Kd.R_drew)); exact HO271.out) (Kd.R_base ho0) hb); have n2_ := Aside0.mk (Kd.R_lower (Kd.R_new' (Kd.R_new' ho0 (Kd.R_lt (by (with_reducible repeat (first | apply Kd.R_alloc | apply Kd.R_drewN | apply Kd.R_drew)); exact HO267.out))) (Kd.R_lt (by (with_reducible repeat (first | apply Kd.R_alloc | apply Kd.R_drewN | apply Kd.R_drew)); exact HO271.out))) (below_size (by repeat (first | (with_reducible first | exact HB.out | apply below_alloc | apply pw_below_drewN | apply below_drew1) | exact HB.out)))); have n3_ := Aside0.mk (below_step (by repeat (first | (with_reducible first | exact HB.out | apply below_alloc | apply pw_below_drewN | apply below_drew1) | exact HB.out)) hb); clear HO267; clear HO271; clear HB; have HO267 := n0_; have HO271 := n1_; have HO274 := n2_; have HB := n3_; clear n0_ n1_ n2_ n3_; (try clear hb); (try clear hb2); (try clear hk); (try clear hi); (try clear ho0); obtain ⟨Ao14, co14, eo14⟩ := Kd.R_slice HO274.out; subst eo14) | ((with_reducible refine gate_callee (f := 27) rfl ?_); refine goesL_ (some 36) rfl rfl Try.func27 (by kernel_rfl) rfl #[.slice Ao11 t265.length co11, .slice Ao14 t272.length co14] rfl (by (try simp only [List.map_toArray, List.map_cons, List.map_nil]); first | done | rfl | (simp only [List.length_drop, List.length_take]; rfl)) ?_; (with_reducible refine (suffix_Commons.calls k _ _ t265 _ _ t272 t275 t276 _ ?side1 ?side2 ?side3 ?side4 A8.out).mono ?_); (case side1 => repeat (first | exact (Kd.R_reads' HO267.out).2.2 | (with_reducible refine Kd.C_alloc ?_ _) | (with_reducible refine Kd.C_drewN ?_ _) | (with_reducible refine Kd.C_drew ?_))); (case side2 => exact (Kd.R_reads' HO267.out).2.1); (case side3 => repeat (first | exact (Kd.R_reads' HO274.out).2.2 | (with_reducible refine Kd.C_alloc ?_ _) | (with_reducible refine Kd.C_drewN ?_ _) | (with_reducible refine Kd.C_drew ?_))); (case side4 => exact (Kd.R_reads' HO274.out).2.1); rintro e w15 ⟨v277, rfl, ho0, hb⟩; refine ⟨_, rfl, ?_⟩; have n0_ := Aside0.mk (Kd.R_elder' (by (with_reducible repeat (first | apply Kd.R_alloc | apply Kd.R_drewN | apply Kd.R_drew)); exact HO267.out) (Kd.R_base ho0) hb); have n1_ := Aside0.mk (Kd.R_elder' (by (with_reducible repeat (first | apply Kd.R_alloc | apply Kd.R_drewN | apply Kd.R_drew)); exact HO271.out) (Kd.R_base ho0) hb); have n2_ := Aside0.mk (Kd.R_elder' (by (with_reducible repeat (first | apply Kd.R_alloc | apply Kd.R_drewN | apply Kd.R_drew)); exact HO274.out) (Kd.R_base ho0) hb); have n3_ := Aside0.mk (Kd.R_lower (Kd.R_new' (Kd.R_new' (Kd.R_new' ho0 (Kd.R_lt (by (with_reducible repeat (first | apply Kd.R_alloc | apply Kd.R_drewN | apply Kd.R_drew)); exact HO267.out))) (Kd.R_lt (by (with_reducible repeat (first | apply Kd.R_alloc | apply Kd.R_drewN | apply Kd.R_drew)); exact HO271.out))) (Kd.R_lt (by (with_reducible repeat (first | apply Kd.R_alloc | apply Kd.R_drewN | apply Kd.R_drew)); exact HO274.out))) (below_size (by repeat (first | (with_reducible first | exact HB.out | apply below_alloc | apply pw_below_drewN | apply below_drew1) | exact HB.out)))); have n4_ := Aside0.mk (below_step (by repeat (first | (with_reducible first | exact HB.out | apply below_alloc | apply pw_below_drewN | apply below_drew1) | exact HB.out)) hb); clear HO267; clear HO271; clear HO274; clear HB; have HO267 := n0_; have HO271 := n1_; have HO274 := n2_; have HO278 := n3_; have HB := n4_; clear n0_ n1_ n2_ n3_ n4_; (try clear hb); (try clear hb2); (try clear hk); (try clear hi); (try clear ho0)))
 (try simp only [Act.put, List.setIfInBounds_toArray, List.set_cons_zero, List.set_cons_succ])
 go_cut [78] (fun v78 wc => ∃ (kq : Nat) (x78_8 : Bool), v78 = .bool x78_8 ∧ Aside0 (incipitlaw15_SuffixSorts.j0 kq a2 a3 t265 t272 t275 x78_8 = some r) ∧ Aside0 (kq ≤ k) ∧ Aside0 (Kd.R (Kd.int .i64) 3 wc w.heap.size (fun k_ => some k_ ≠ ((.slice Ao14 t272.length co14) : Value).ownBlock ∧ some k_ ≠ (v277 : Value).ownBlock) (.slice Ao11 t265.length co11) t265) ∧ Aside0 (Kd.R (Kd.int .i64) 3 wc w.heap.size (fun k_ => some k_ ≠ ((.slice Ao11 t265.length co11) : Value).ownBlock ∧ some k_ ≠ (v277 : Value).ownBlock) (.slice Ao14 t272.length co14) t272) ∧ Aside0 (Kd.R (Kd.int .i64) 3 wc w.heap.size (fun k_ => some k_ ≠ ((.slice Ao11 t265.length co11) : Value).ownBlock ∧ some k_ ≠ ((.slice Ao14 t272.length co14) : Value).ownBlock) v277 t275) ∧ Aside0 (Below w.heap.size w wc))
 case first =>
  have H := HC9.out
  clear HC9
  by_cases c16 : t269 = 0
  ·rw [if_pos c16] at H
   have c16b0 : (t269 == 0) = true := beq_iff_eq.mpr c16
   have c16b1 : (t269 != 0) = false := bne_eq_false_iff_eq.mpr c16
   clear c16
   (first | rw [c16b0] | (simp only [i64_w, i32_w]; rw [c16b0]) | skip)
   replace H := Option.bind_eq_some_iff.mp H
   obtain ⟨t279, A170, H⟩ := H
   replace H : (if t279 = true then (if 0 < (t268.length : Int) then (if (rd t268 0) = (wrap64 ((t265.length : Int) - 1)) then ((suffix_Right.f k t265 t272).bind fun t281 => (if t281 = true then (if t276 = 0 then (if (t275.length : Int) = (t265.length : Int) then (if 0 < (t275.length : Int) then (incipitlaw15_SuffixSorts.j0 k a2 a3 t265 t272 t275 ((rd t275 0) != 0)) else (none)) else (incipitlaw15_SuffixSorts.j0 k a2 a3 t265 t272 t275 true)) else (incipitlaw15_SuffixSorts.j0 k a2 a3 t265 t272 t275 true)) else (incipitlaw15_SuffixSorts.j0 k a2 a3 t265 t272 t275 true))) else (incipitlaw15_SuffixSorts.j0 k a2 a3 t265 t272 t275 true)) else (none)) else (incipitlaw15_SuffixSorts.j0 k a2 a3 t265 t272 t275 true)) = some r := H
   have A17 := Aside0.mk A170
   clear A170
   by_cases c18 : t279 = true
   ·subst c18
    have H1 : (if 0 < (t268.length : Int) then (if (rd t268 0) = (wrap64 ((t265.length : Int) - 1)) then ((suffix_Right.f k t265 t272).bind fun t281 => (if t281 = true then (if t276 = 0 then (if (t275.length : Int) = (t265.length : Int) then (if 0 < (t275.length : Int) then (incipitlaw15_SuffixSorts.j0 k a2 a3 t265 t272 t275 ((rd t275 0) != 0)) else (none)) else (incipitlaw15_SuffixSorts.j0 k a2 a3 t265 t272 t275 true)) else (incipitlaw15_SuffixSorts.j0 k a2 a3 t265 t272 t275 true)) else (incipitlaw15_SuffixSorts.j0 k a2 a3 t265 t272 t275 true))) else (incipitlaw15_SuffixSorts.j0 k a2 a3 t265 t272 t275 true)) else (none)) = some r := by rw [if_pos rfl] at H; exact H
    clear H
    have H := H1
    clear H1
    by_cases c19 : 0 < (t268.length : Int)
    ·rw [if_pos c19] at H
     have c19b0 : decide (0 < (t268.length : Int)) = true := decide_eq_true c19
     have c19b1 : decide (0 < t268.length) = true := decide_eq_true (by omega)
     clear c19
     by_cases c20 : (rd t268 0) = (wrap64 ((t265.length : Int) - 1))
     ·rw [if_pos c20] at H
      have c20b0 : ((rd t268 0) == (wrap64 ((t265.length : Int) - 1))) = true := beq_iff_eq.mpr c20
      have c20b1 : ((rd t268 0) != (wrap64 ((t265.length : Int) - 1))) = false := bne_eq_false_iff_eq.mpr c20
      clear c20
      replace H := Option.bind_eq_some_iff.mp H
      obtain ⟨t281, A210, H⟩ := H
      replace H : (if t281 = true then (if t276 = 0 then (if (t275.length : Int) = (t265.length : Int) then (if 0 < (t275.length : Int) then (incipitlaw15_SuffixSorts.j0 k a2 a3 t265 t272 t275 ((rd t275 0) != 0)) else (none)) else (incipitlaw15_SuffixSorts.j0 k a2 a3 t265 t272 t275 true)) else (incipitlaw15_SuffixSorts.j0 k a2 a3 t265 t272 t275 true)) else (incipitlaw15_SuffixSorts.j0 k a2 a3 t265 t272 t275 true)) = some r := H
      have A21 := Aside0.mk A210
      clear A210
      by_cases c22 : t281 = true
      ·subst c22
       have H1 : (if t276 = 0 then (if (t275.length : Int) = (t265.length : Int) then (if 0 < (t275.length : Int) then (incipitlaw15_SuffixSorts.j0 k a2 a3 t265 t272 t275 ((rd t275 0) != 0)) else (none)) else (incipitlaw15_SuffixSorts.j0 k a2 a3 t265 t272 t275 true)) else (incipitlaw15_SuffixSorts.j0 k a2 a3 t265 t272 t275 true)) = some r := by rw [if_pos rfl] at H; exact H
       clear H
       have H := H1
       clear H1
       by_cases c23 : t276 = 0
       ·rw [if_pos c23] at H
        have c23b0 : (t276 == 0) = true := beq_iff_eq.mpr c23
        have c23b1 : (t276 != 0) = false := bne_eq_false_iff_eq.mpr c23
        clear c23
        by_cases c24 : (t275.length : Int) = (t265.length : Int)
        ·rw [if_pos c24] at H
         have c24b0 : ((t275.length : Int) == (t265.length : Int)) = true := beq_iff_eq.mpr c24
         have c24b1 : ((t275.length : Int) != (t265.length : Int)) = false := bne_eq_false_iff_eq.mpr c24
         have c24b2 : (t275.length == t265.length) = true := by first | simpa using c24 | (simp at c24 ⊢; omega)
         clear c24
         by_cases c25 : 0 < (t275.length : Int)
         ·rw [if_pos c25] at H
          have c25b0 : decide (0 < (t275.length : Int)) = true := decide_eq_true c25
          have c25b1 : decide (0 < t275.length) = true := decide_eq_true (by omega)
          clear c25
          as_aux_lemma =>
           have H' := Aside0.mk H
           clear H
           obtain ⟨Ao26, co26, eo26⟩ := Kd.R_slice HO271.out
           subst eo26
           go_wp2_with (first | (go_at_call 17; (with_reducible refine (incipitref06_Same.calls k _ _ t268 _ _ t272 true _ ?side1 ?side2 ?side3 ?side4 A17.out).mono ?_); (case side1 => repeat (first | exact (Kd.R_reads' HO271.out).2.2 | (with_reducible refine Kd.C_alloc ?_ _) | (with_reducible refine Kd.C_drewN ?_ _) | (with_reducible refine Kd.C_drew ?_))); (case side2 => exact (Kd.R_reads' HO271.out).2.1); (case side3 => repeat (first | exact (Kd.R_reads' HO274.out).2.2 | (with_reducible refine Kd.C_alloc ?_ _) | (with_reducible refine Kd.C_drewN ?_ _) | (with_reducible refine Kd.C_drew ?_))); (case side4 => exact (Kd.R_reads' HO274.out).2.1); rintro e w' ⟨rfl, ⟨nd, rfl⟩⟩; have p280 : 0 ≤ (0 : Int) := (by omega); have q280 : 0 < (t268.length : Int) := of_decide_eq_true (by first | (with_reducible assumption) | assumption); obtain ⟨ad280, e280, hx280_0⟩ := Kd.at_int (Kd.R_reads' HO271.out).2.2 0 p280 q280; cases e280; have qi280 : (0 < t268.length) = True := eq_true (by omega); (try rw [show ((0 : Int)).toNat = 0 from rfl] at hx280_0); (try rw [Addr.add_zero'] at hx280_0); replace p280 := eq_true p280; replace q280 := eq_true q280) | (go_at_call 19; (with_reducible refine (suffix_Right.calls k _ _ t265 _ _ t272 true _ ?side1 ?side2 ?side3 ?side4 A21.out).mono ?_); (case side1 => repeat (first | exact (Kd.R_reads' HO267.out).2.2 | (with_reducible refine Kd.C_alloc ?_ _) | (with_reducible refine Kd.C_drewN ?_ _) | (with_reducible refine Kd.C_drew ?_))); (case side2 => exact (Kd.R_reads' HO267.out).2.1); (case side3 => repeat (first | exact (Kd.R_reads' HO274.out).2.2 | (with_reducible refine Kd.C_alloc ?_ _) | (with_reducible refine Kd.C_drewN ?_ _) | (with_reducible refine Kd.C_drew ?_))); (case side4 => exact (Kd.R_reads' HO274.out).2.1); rintro e w27 ⟨rfl, hb⟩; have n0_ := Aside0.mk (Kd.R_below (by (with_reducible repeat (first | apply Kd.R_alloc | apply Kd.R_drewN | apply Kd.R_drew)); exact HO267.out) hb); have n1_ := Aside0.mk (Kd.R_below (by (with_reducible repeat (first | apply Kd.R_alloc | apply Kd.R_drewN | apply Kd.R_drew)); exact HO271.out) hb); have n2_ := Aside0.mk (Kd.R_below (by (with_reducible repeat (first | apply Kd.R_alloc | apply Kd.R_drewN | apply Kd.R_drew)); exact HO274.out) hb); have n3_ := Aside0.mk (Kd.R_below (by (with_reducible repeat (first | apply Kd.R_alloc | apply Kd.R_drewN | apply Kd.R_drew)); exact HO278.out) hb); have n4_ := Aside0.mk (below_step (by repeat (first | (with_reducible first | exact HB.out | apply below_alloc | apply pw_below_drewN | apply below_drew1) | exact HB.out)) hb); clear HO267; clear HO271; clear HO274; clear HO278; clear HB; have HO267 := n0_; have HO271 := n1_; have HO274 := n2_; have HO278 := n3_; have HB := n4_; clear n0_ n1_ n2_ n3_ n4_; (try clear hb); (try clear hb2); (try clear hk); (try clear hi); obtain ⟨Ao28, co28, eo28⟩ := Kd.R_slice HO278.out; subst eo28; have p282 : 0 ≤ (0 : Int) := (by omega); have q282 : 0 < (t275.length : Int) := of_decide_eq_true (by first | (with_reducible assumption) | assumption); obtain ⟨ad282, e282, hx282_0⟩ := Kd.at_int (Kd.R_reads' HO278.out).2.2 0 p282 q282; cases e282; have qi282 : (0 < t275.length) = True := eq_true (by omega); (try rw [show ((0 : Int)).toNat = 0 from rfl] at hx282_0); (try rw [Addr.add_zero'] at hx282_0); replace p282 := eq_true p282; replace q282 := eq_true q282))
           go_meet
           case rel => exact ⟨_, (((rd t275 0) != 0)), (by first | rfl | (simp; done) | (simp [*]; done)), H', ⟨by first | omega | exact Nat.le_refl _⟩, ⟨by (with_reducible repeat (first | apply Kd.R_alloc | apply Kd.R_drewN | apply Kd.R_drew)); exact Kd.R_mono HO267.out (fun _ hk => ⟨hk.1.2, hk.2⟩)⟩, ⟨by (with_reducible repeat (first | apply Kd.R_alloc | apply Kd.R_drewN | apply Kd.R_drew)); exact Kd.R_mono HO274.out (fun _ hk => ⟨hk.1.1.2, hk.2⟩)⟩, ⟨by (with_reducible repeat (first | apply Kd.R_alloc | apply Kd.R_drewN | apply Kd.R_drew)); exact Kd.R_mono HO278.out (fun _ hk => ⟨hk.1.1.2, hk.2⟩)⟩, ⟨by repeat (first | (with_reducible first | exact HB.out | apply below_alloc | apply pw_below_drewN | apply below_drew1) | exact HB.out)⟩⟩
         ·rw [if_neg c25] at H
          exact absurd H (by simp)
        ·rw [if_neg c24] at H
         have c24b0 : ((t275.length : Int) == (t265.length : Int)) = false := beq_eq_false_iff_ne.mpr c24
         have c24b1 : ((t275.length : Int) != (t265.length : Int)) = true := bne_iff_ne.mpr c24
         have c24b2 : (t275.length == t265.length) = false := by first | simpa using c24 | (simp at c24 ⊢; omega)
         exact absurd (HR_.out ▸ H) (by generalize k = k_; cases k_ <;> simp [incipitlaw15_SuffixSorts.j0])
       ·rw [if_neg c23] at H
        have c23b0 : (t276 == 0) = false := beq_eq_false_iff_ne.mpr c23
        have c23b1 : (t276 != 0) = true := bne_iff_ne.mpr c23
        exact absurd (HR_.out ▸ H) (by generalize k = k_; cases k_ <;> simp [incipitlaw15_SuffixSorts.j0])
      ·replace c22 := Bool.eq_false_iff.mpr c22
       subst c22
       have H1 : (incipitlaw15_SuffixSorts.j0 k a2 a3 t265 t272 t275 true) = some r := by rw [if_neg (show ¬ (false = true) by decide)] at H; exact H
       clear H
       have H := H1
       clear H1
       exact absurd (HR_.out ▸ H) (by generalize k = k_; cases k_ <;> simp [incipitlaw15_SuffixSorts.j0])
     ·rw [if_neg c20] at H
      have c20b0 : ((rd t268 0) == (wrap64 ((t265.length : Int) - 1))) = false := beq_eq_false_iff_ne.mpr c20
      have c20b1 : ((rd t268 0) != (wrap64 ((t265.length : Int) - 1))) = true := bne_iff_ne.mpr c20
      exact absurd (HR_.out ▸ H) (by generalize k = k_; cases k_ <;> simp [incipitlaw15_SuffixSorts.j0])
    ·rw [if_neg c19] at H
     exact absurd H (by simp)
   ·replace c18 := Bool.eq_false_iff.mpr c18
    subst c18
    have H1 : (incipitlaw15_SuffixSorts.j0 k a2 a3 t265 t272 t275 true) = some r := by rw [if_neg (show ¬ (false = true) by decide)] at H; exact H
    clear H
    have H := H1
    clear H1
    exact absurd (HR_.out ▸ H) (by generalize k = k_; cases k_ <;> simp [incipitlaw15_SuffixSorts.j0])
  ·rw [if_neg c16] at H
   have c16b0 : (t269 == 0) = false := beq_eq_false_iff_ne.mpr c16
   have c16b1 : (t269 != 0) = true := bne_iff_ne.mpr c16
   (first | rw [c16b0] | (simp only [i64_w, i32_w]; rw [c16b0]) | skip)
   exact absurd (HR_.out ▸ H) (by generalize k = k_; cases k_ <;> simp [incipitlaw15_SuffixSorts.j0])
 case rest =>
  clear HC9
  try clear c1
  try clear c2
  try clear p2
  try clear q2
  try clear hx2
  try clear qi2
  try clear c6
  try clear p6
  try clear c16
  try clear c16b0
  try clear c16b1
  try clear c18
  try clear c19
  try clear c19b0
  try clear c19b1
  try clear c20
  try clear c20b0
  try clear c20b1
  try clear c22
  try clear c23
  try clear c23b0
  try clear c23b1
  try clear c24
  try clear c24b0
  try clear c24b1
  try clear c24b2
  try clear c25
  try clear c25b0
  try clear c25b1
  try clear c26
  try clear c27
  try clear p28
  try clear q28
  try clear hx28
  try clear qi28
  try clear hx280_0
  try clear hx282_0
  try clear p280
  try clear p282
  try clear q280
  try clear q282
  obtain ⟨kq, x78_8, rfl, HA, HJ8, HO_9, HO_12, HO_13, HB⟩ := hcut
  cases kq with
  | zero => exact absurd HA.out (by simp [incipitlaw15_SuffixSorts.j0])
  | succ kj8 =>
   have H := HA.out
   clear HA
   simp only [incipitlaw15_SuffixSorts.j0] at H
   by_cases c29 : x78_8 = true
   ·subst c29
    have H1 : (some false) = some r := by rw [if_pos rfl] at H; exact H
    clear H
    have H := H1
    clear H1
    exact absurd (HR_.out ▸ H) (by simp)
   ·replace c29 := Bool.eq_false_iff.mpr c29
    subst c29
    have H1 : (incipitlaw15_SuffixSorts.l0 kj8 a2 a3 t265 t272 t275 1) = some r := by rw [if_neg (show ¬ (false = true) by decide)] at H; exact H
    clear H
    have H := H1
    clear H1
    have H' := Aside0.mk H
    clear H
    go_wp2
    go_loopg [15] kj8 (fun kq v15 w' => ∃ (x15_2 : Int), v15 = .int .i64 x15_2 ∧ Aside0 (incipitlaw15_SuffixSorts.l0 kq a2 a3 t265 t272 t275 x15_2 = some r) ∧ Aside0 (kq ≤ kj8) ∧ Aside0 (Kd.R (Kd.int .i64) 3 w' w.heap.size (fun k_ => some k_ ≠ ((.slice Ao14 t272.length co14) : Value).ownBlock ∧ some k_ ≠ (v277 : Value).ownBlock) (.slice Ao11 t265.length co11) t265) ∧ Aside0 (Kd.R (Kd.int .i64) 3 w' w.heap.size (fun k_ => some k_ ≠ ((.slice Ao11 t265.length co11) : Value).ownBlock ∧ some k_ ≠ (v277 : Value).ownBlock) (.slice Ao14 t272.length co14) t272) ∧ Aside0 (Kd.R (Kd.int .i64) 3 w' w.heap.size (fun k_ => some k_ ≠ ((.slice Ao11 t265.length co11) : Value).ownBlock ∧ some k_ ≠ ((.slice Ao14 t272.length co14) : Value).ownBlock) v277 t275) ∧ Aside0 (Below w.heap.size w w'))
    case atStart => exact ⟨(1), (by first | rfl | (simp; done) | (simp [*]; done)), H', ⟨Nat.le_refl _⟩, ⟨by (with_reducible repeat (first | apply Kd.R_alloc | apply Kd.R_drewN | apply Kd.R_drew)); exact HO_9.out⟩, ⟨by (with_reducible repeat (first | apply Kd.R_alloc | apply Kd.R_drewN | apply Kd.R_drew)); exact HO_12.out⟩, ⟨by (with_reducible repeat (first | apply Kd.R_alloc | apply Kd.R_drewN | apply Kd.R_drew)); exact HO_13.out⟩, ⟨by repeat (first | (with_reducible first | exact HB.out | apply below_alloc | apply pw_below_drewN | apply below_drew1) | exact HB.out)⟩⟩
    case round =>
     clear H'
     try clear c1
     try clear c2
     try clear p2
     try clear q2
     try clear hx2
     try clear qi2
     try clear c6
     try clear p6
     try clear c16
     try clear c16b0
     try clear c16b1
     try clear c18
     try clear c19
     try clear c19b0
     try clear c19b1
     try clear c20
     try clear c20b0
     try clear c20b1
     try clear c22
     try clear c23
     try clear c23b0
     try clear c23b1
     try clear c24
     try clear c24b0
     try clear c24b1
     try clear c24b2
     try clear c25
     try clear c25b0
     try clear c25b1
     try clear c26
     try clear c27
     try clear p28
     try clear q28
     try clear hx28
     try clear qi28
     try clear c29
     try clear hx280_0
     try clear hx282_0
     try clear p2
     try clear p28
     try clear p280
     try clear p282
     try clear p6
     try clear q2
     try clear q28
     try clear q280
     try clear q282
     obtain ⟨x15_2, rfl, HA, HK2, HO_9, HO_12, HO_13, HB⟩ := hrel
     cases gk with
     | zero => exact absurd HA.out (by simp [incipitlaw15_SuffixSorts.l0])
     | succ k2 =>
      have H := HA.out
      clear HA
      simp only [incipitlaw15_SuffixSorts.l0] at H
      by_cases c30 : x15_2 < (t275.length : Int)
      ·rw [if_pos c30] at H
       have c30b0 : decide (x15_2 < (t275.length : Int)) = true := decide_eq_true c30
       clear c30
       by_cases c31 : 0 ≤ x15_2
       ·rw [if_pos c31] at H
        have c31b0 : decide (0 ≤ x15_2) = true := decide_eq_true c31
        clear c31
        obtain ⟨ji32, hji32⟩ : ∃ j_ : Int, (wrap64 (x15_2 - 1)) = j_ := ⟨_, rfl⟩
        replace H : (if 0 ≤ (ji32) then (if (ji32) < (t272.length : Int) then (if x15_2 < (t272.length : Int) then ((incipitref15_Common.f k2 t265 (rd t272 (ji32)) (rd t272 x15_2)).bind fun t286 => (if (rd t275 x15_2) = t286 then (incipitlaw15_SuffixSorts.l0 k2 a2 a3 t265 t272 t275 (wrap64 (x15_2 + 1))) else (some false))) else (none)) else (none)) else (none)) = some r := by first | (rw [hji32] at H; exact H) | (simp only [hji32] at H ⊢; exact H)
        have hji32w : (IntKind.i64.wrap (x15_2 - 1)) = ji32 := (i64_w _).trans hji32
        by_cases c33 : 0 ≤ (ji32)
        ·rw [if_pos c33] at H
         have c33b0 : decide (0 ≤ (ji32)) = true := decide_eq_true c33
         clear c33
         by_cases c34 : (ji32) < (t272.length : Int)
         ·rw [if_pos c34] at H
          have c34b0 : decide ((ji32) < (t272.length : Int)) = true := decide_eq_true c34
          clear c34
          by_cases c35 : x15_2 < (t272.length : Int)
          ·rw [if_pos c35] at H
           have c35b0 : decide (x15_2 < (t272.length : Int)) = true := decide_eq_true c35
           clear c35
           replace H := Option.bind_eq_some_iff.mp H
           obtain ⟨t286, A360, H⟩ := H
           replace H : (if (rd t275 x15_2) = t286 then (incipitlaw15_SuffixSorts.l0 k2 a2 a3 t265 t272 t275 (wrap64 (x15_2 + 1))) else (some false)) = some r := H
           have A36 := Aside0.mk A360
           clear A360
           by_cases c37 : (rd t275 x15_2) = t286
           ·rw [if_pos c37] at H
            have c37b0 : ((rd t275 x15_2) == t286) = true := beq_iff_eq.mpr c37
            have c37b1 : ((rd t275 x15_2) != t286) = false := bne_eq_false_iff_eq.mpr c37
            clear c37
            as_aux_lemma =>
             have H' := Aside0.mk H
             clear H
             obtain ⟨Ao38, co38, eo38⟩ := Kd.R_slice HO_13.out
             subst eo38
             try go_wp2
             have n0_ := Aside0.mk (Kd.R_drew HO_9.out)
             have n1_ := Aside0.mk (Kd.R_drew HO_12.out)
             have n2_ := Aside0.mk (Kd.R_drew HO_13.out)
             have n3_ := Aside0.mk (below_drew1 HB.out)
             clear HO_9
             clear HO_12
             clear HO_13
             clear HB
             have HO_9 := n0_
             have HO_12 := n1_
             have HO_13 := n2_
             have HB := n3_
             clear n0_ n1_ n2_ n3_
             have p283 : 0 ≤ (x15_2 : Int) := of_decide_eq_true (by first | (with_reducible assumption) | assumption)
             have q283 : x15_2 < (t275.length : Int) := of_decide_eq_true (by first | (with_reducible assumption) | assumption)
             obtain ⟨ad283, e283, hx283_0⟩ := Kd.at_int (Kd.R_reads' HO_13.out).2.2 x15_2 p283 q283
             cases e283
             replace p283 := eq_true p283
             replace q283 := eq_true q283
             have p284 : 0 ≤ ((ji32) : Int) := of_decide_eq_true (by first | (with_reducible assumption) | assumption)
             have q284 : (ji32) < (t272.length : Int) := of_decide_eq_true (by first | (with_reducible assumption) | assumption)
             obtain ⟨ad284, e284, hx284_0⟩ := Kd.at_int (Kd.R_reads' HO_12.out).2.2 (ji32) p284 q284
             cases e284
             replace p284 := eq_true p284
             replace q284 := eq_true q284
             have p285 : 0 ≤ (x15_2 : Int) := of_decide_eq_true (by first | (with_reducible assumption) | assumption)
             have q285 : x15_2 < (t272.length : Int) := of_decide_eq_true (by first | (with_reducible assumption) | assumption)
             obtain ⟨ad285, e285, hx285_0⟩ := Kd.at_int (Kd.R_reads' HO_12.out).2.2 x15_2 p285 q285
             obtain rfl : ad284 = ad285 := (by injection e285)
             replace p285 := eq_true p285
             replace q285 := eq_true q285
             refine start_ (n := 16) (S := fun w' => w'.cell? (ad283.add (x15_2).toNat) = some (.int .i64 (rd t275 x15_2)) ∧ w'.cell? (ad284.add ((ji32)).toNat) = some (.int .i64 (rd t272 (ji32))) ∧ w'.cell? (ad284.add (x15_2).toNat) = some (.int .i64 (rd t272 x15_2))) (ds := []) #[false, false, false, false, false, false, false, false, false, false, false, false, false, false, false, false] (by kernel_rfl) rfl rfl ⟨hx283_0, hx284_0, hx285_0⟩ (fun hHeld => ?_); refine with_tabW incipitlaw15_SuffixSorts.tab10 incipitlaw15_SuffixSorts.bits10 (fun HT_ HW_ => ?_)
             generalize wr.drew = w39 at HO_9 HO_12 HO_13 HB hx283_0 hx284_0 hx285_0 hHeld ⊢
             refine pure_ (i := 0) (N := some 85) (v := ?_) (a' := ?_) #[true, false, false, false, false, false, false, false, false, false, false, false, false, false, false, false] rfl rfl (any_of HT_.out (by kernel_rfl)) (fun _ _ _ h => h) (Or.inl ⟨by rfl, ?_⟩) ?_ ?_
             rotate_left
             ·intro w'
              go_simp
              with_reducible rfl
             rotate_left
             ·simp only [Act.put, List.setIfInBounds_toArray, List.set_cons_zero, List.set_cons_succ, i64_w, i32_w]
              rfl
             refine pure_ (i := 1) (N := some 86) (v := ?_) (a' := ?_) #[true, true, false, false, false, false, false, false, false, false, false, false, false, false, false, false] rfl rfl (any_of HT_.out (by kernel_rfl)) (fun _ _ _ h => h) (Or.inl ⟨by rfl, ?_⟩) ?_ ?_
             rotate_left
             ·intro w'
              go_simp
              with_reducible rfl
             rotate_left
             ·simp only [Act.put, List.setIfInBounds_toArray, List.set_cons_zero, List.set_cons_succ, i64_w, i32_w]
              rfl
             refine pure_ (i := 2) (N := some 87) (v := ?_) (a' := ?_) #[true, true, true, false, false, false, false, false, false, false, false, false, false, false, false, false] rfl rfl (any_of HT_.out (by kernel_rfl)) (fun _ _ _ h => h) (Or.inl ⟨by rfl, ?_⟩) ?_ ?_
             rotate_left
             ·intro w'
              go_simp
              with_reducible rfl
             rotate_left
             ·simp only [Act.put, List.setIfInBounds_toArray, List.set_cons_zero, List.set_cons_succ, i64_w, i32_w]
              rfl
             refine pure_ (i := 4) (N := some 89) (v := ?_) (a' := ?_) #[true, true, true, false, true, false, false, false, false, false, false, false, false, false, false, false] rfl rfl (any_of HT_.out (by kernel_rfl)) (fun _ _ _ h => h) (Or.inl ⟨by rfl, ?_⟩) ?_ ?_
             rotate_left
             ·intro w'
              go_simp
              with_reducible rfl
             rotate_left
             ·simp only [Act.put, List.setIfInBounds_toArray, List.set_cons_zero, List.set_cons_succ, i64_w, i32_w]
              rfl
             refine pure_ (i := 5) (N := some 90) (v := ?_) (a' := ?_) #[true, true, true, false, true, true, false, false, false, false, false, false, false, false, false, false] rfl rfl (any_of HT_.out (by kernel_rfl)) (fun _ _ _ h => h) (Or.inl ⟨by rfl, ?_⟩) ?_ ?_
             rotate_left
             ·intro w'
              go_simp
              with_reducible rfl
             rotate_left
             ·simp only [Act.put, List.setIfInBounds_toArray, List.set_cons_zero, List.set_cons_succ, i64_w, i32_w]
              rfl
             refine pure_ (i := 6) (N := some 91) (v := ?_) (a' := ?_) #[true, true, true, false, true, true, true, false, false, false, false, false, false, false, false, false] rfl rfl (any_of HT_.out (by kernel_rfl)) (fun _ _ _ h => h) (Or.inl ⟨by rfl, ?_⟩) ?_ ?_
             rotate_left
             ·intro w'
              go_simp
              with_reducible rfl
             rotate_left
             ·simp only [Act.put, List.setIfInBounds_toArray, List.set_cons_zero, List.set_cons_succ, i64_w, i32_w]
              rfl
             refine pure_ (i := 7) (N := some 92) (v := ?_) (a' := ?_) #[true, true, true, false, true, true, true, true, false, false, false, false, false, false, false, false] rfl rfl (any_of HT_.out (by kernel_rfl)) (fun _ _ _ h => h) (Or.inl ⟨by rfl, ?_⟩) ?_ ?_
             rotate_left
             ·intro w'
              go_simp
              with_reducible rfl
             rotate_left
             ·simp only [Act.put, List.setIfInBounds_toArray, List.set_cons_zero, List.set_cons_succ, i64_w, i32_w]
              rfl
             refine pure_ (i := 8) (N := some 93) (v := ?_) (a' := ?_) #[true, true, true, false, true, true, true, true, true, false, false, false, false, false, false, false] rfl rfl (any_of HT_.out (by kernel_rfl)) (fun _ _ _ h => h) (Or.inl ⟨by rfl, ?_⟩) ?_ ?_
             rotate_left
             ·intro w'
              go_simp
              with_reducible rfl
             rotate_left
             ·simp only [Act.put, List.setIfInBounds_toArray, List.set_cons_zero, List.set_cons_succ, i64_w, i32_w]
              rfl
             refine pure_ (i := 10) (N := some 95) (v := ?_) (a' := ?_) #[true, true, true, false, true, true, true, true, true, false, true, false, false, false, false, false] rfl rfl (any_of HT_.out (by kernel_rfl)) (fun _ _ _ h => h) (Or.inl ⟨by rfl, ?_⟩) ?_ ?_
             rotate_left
             ·intro w'
              go_simp
              with_reducible rfl
             rotate_left
             ·simp only [Act.put, List.setIfInBounds_toArray, List.set_cons_zero, List.set_cons_succ, i64_w, i32_w]
              rfl
             refine pure_ (i := 11) (N := some 96) (v := ?_) (a' := ?_) #[true, true, true, false, true, true, true, true, true, false, true, true, false, false, false, false] rfl rfl (any_of HT_.out (by kernel_rfl)) (fun _ _ _ h => h) (Or.inl ⟨by rfl, ?_⟩) ?_ ?_
             rotate_left
             ·intro w'
              go_simp
              with_reducible rfl
             rotate_left
             ·simp only [Act.put, List.setIfInBounds_toArray, List.set_cons_zero, List.set_cons_succ, i64_w, i32_w]
              rfl
             refine pure_ (i := 12) (N := some 97) (v := ?_) (a' := ?_) #[true, true, true, false, true, true, true, true, true, false, true, true, true, false, false, false] rfl rfl (any_of HT_.out (by kernel_rfl)) (fun _ _ _ h => h) (Or.inl ⟨by rfl, ?_⟩) ?_ ?_
             rotate_left
             ·intro w'
              go_simp
              with_reducible rfl
             rotate_left
             ·simp only [Act.put, List.setIfInBounds_toArray, List.set_cons_zero, List.set_cons_succ, i64_w, i32_w]
              rfl
             refine take_ (i := 3) (N := some 88) (v := ?_) (a' := ?_) #[true, true, true, true, true, true, true, true, true, false, true, true, true, false, false, false] rfl rfl (take_ofW HT_.out HW_.out (by kernel_rfl)) (fun _ _ _ h => h) (Or.inl ⟨by rfl, ?_⟩) hHeld ?_ ?_
             rotate_left
             ·rintro w' ⟨s0, s1, s2⟩
              go_simp
              with_reducible rfl
             rotate_left
             ·simp only [Act.put, List.setIfInBounds_toArray, List.set_cons_zero, List.set_cons_succ, i64_w, i32_w]
              rfl
             refine take_ (i := 9) (N := some 94) (v := ?_) (a' := ?_) #[true, true, true, true, true, true, true, true, true, true, true, true, true, false, false, false] rfl rfl (take_ofW HT_.out HW_.out (by kernel_rfl)) (fun _ _ _ h => h) (Or.inl ⟨by rfl, ?_⟩) hHeld ?_ ?_
             rotate_left
             ·rintro w' ⟨s0, s1, s2⟩
              go_simp
              with_reducible rfl
             rotate_left
             ·simp only [Act.put, List.setIfInBounds_toArray, List.set_cons_zero, List.set_cons_succ, i64_w, i32_w]
              rfl
             refine take_ (i := 13) (N := some 98) (v := ?_) (a' := ?_) #[true, true, true, true, true, true, true, true, true, true, true, true, true, true, false, false] rfl rfl (take_ofW HT_.out HW_.out (by kernel_rfl)) (fun _ _ _ h => h) (Or.inl ⟨by rfl, ?_⟩) hHeld ?_ ?_
             rotate_left
             ·rintro w' ⟨s0, s1, s2⟩
              go_simp
              with_reducible rfl
             rotate_left
             ·simp only [Act.put, List.setIfInBounds_toArray, List.set_cons_zero, List.set_cons_succ, i64_w, i32_w]
              rfl
             refine one_ (i := 14) (N := some 99) #[true, true, true, true, true, true, true, true, true, true, true, true, true, true, true, false] rfl rfl (one_of HT_.out (by kernel_rfl)) (by decide) (fun K hK => ?_)
             refine goes_ Try.func28 (by kernel_rfl) rfl #[.slice Ao11 t265.length co11, .int .i64 (rd t272 (ji32)), .int .i64 (rd t272 x15_2)] (by rfl) rfl rfl (by (try simp only [List.map_toArray, List.map_cons, List.map_nil]); first | done | (simp only [hji32]; rfl) | rfl | (simp only [List.length_drop, List.length_take]; rfl)) ?_
             with_reducible refine (incipitref15_Common.calls k2 _ _ t265 (rd t272 (ji32)) (rd t272 x15_2) t286 _ ?side1 ?side2 A36.out).mono ?_
             (case side1 => repeat (first | exact (Kd.R_reads' HO_9.out).2.2 | (with_reducible refine Kd.C_alloc ?_ _) | (with_reducible refine Kd.C_drewN ?_ _) | (with_reducible refine Kd.C_drew ?_)))
             (case side2 => exact (Kd.R_reads' HO_9.out).2.1)
             rintro e w' ⟨rfl, ⟨nd, rfl⟩⟩
             refine ⟨_, rfl, ?_⟩
             refine hK.out _ _ ⟨hHeld.1, hHeld.2.1, hHeld.2.2⟩ (fun hHeld => ?_)
             clear hK K
             refine norm_ (a' := ?_) ?_ ?_
             rotate_left
             ·show Act.put _ (some 99) _ = _
              simp only [Act.put, List.setIfInBounds_toArray, List.set_cons_zero, List.set_cons_succ, i64_w, i32_w]
              rfl
             refine pure_ (i := 15) (N := some 100) (v := ?_) (a' := ?_) #[true, true, true, true, true, true, true, true, true, true, true, true, true, true, true, true] rfl rfl (any_of HT_.out (by kernel_rfl)) (fun _ _ _ h => h) (Or.inl ⟨by rfl, ?_⟩) ?_ ?_
             rotate_left
             ·intro w'
              go_simp
              with_reducible rfl
             rotate_left
             ·simp only [Act.put, List.setIfInBounds_toArray, List.set_cons_zero, List.set_cons_succ, i64_w, i32_w]
              rfl
             refine done_ (done_of HT_.out (by kernel_rfl)) ?_
             try go_wp2
             go_roundg k2
             case measure => have := HJ8.out; have := HK2.out; omega
             case rel => exact ⟨(wrap64 (x15_2 + 1)), (by first | rfl | (simp; done) | (simp [*]; done)), H', ⟨by have := HJ8.out; have := HK2.out; omega⟩, ⟨by (with_reducible repeat (first | apply Kd.R_alloc | apply Kd.R_drewN | apply Kd.R_drew)); exact HO_9.out⟩, ⟨by (with_reducible repeat (first | apply Kd.R_alloc | apply Kd.R_drewN | apply Kd.R_drew)); exact HO_12.out⟩, ⟨by (with_reducible repeat (first | apply Kd.R_alloc | apply Kd.R_drewN | apply Kd.R_drew)); exact HO_13.out⟩, ⟨by repeat (first | (with_reducible first | exact HB.out | apply below_alloc | apply pw_below_drewN | apply below_drew1) | exact HB.out)⟩⟩
           ·rw [if_neg c37] at H
            have c37b0 : ((rd t275 x15_2) == t286) = false := beq_eq_false_iff_ne.mpr c37
            have c37b1 : ((rd t275 x15_2) != t286) = true := bne_iff_ne.mpr c37
            exact absurd (HR_.out ▸ H) (by simp)
          ·rw [if_neg c35] at H
           exact absurd H (by simp)
         ·rw [if_neg c34] at H
          exact absurd H (by simp)
        ·rw [if_neg c33] at H
         exact absurd H (by simp)
       ·rw [if_neg c31] at H
        exact absurd H (by simp)
      ·rw [if_neg c30] at H
       have c30b0 : decide (x15_2 < (t275.length : Int)) = false := decide_eq_false c30
       clear c30
       by_cases c40 : (IntKind.u64.wrap ((t265.length : Int))) = 0
       ·rw [if_pos c40] at H
        exact absurd H (by simp)
       ·rw [if_neg c40] at H
        have c40b0 : ((IntKind.u64.wrap ((t265.length : Int))) == 0) = false := beq_eq_false_iff_ne.mpr c40
        have c40b1 : ((IntKind.u64.wrap ((t265.length : Int))) != 0) = true := bne_iff_ne.mpr c40
        replace H := Option.bind_eq_some_iff.mp H
        obtain ⟨⟨t287, t288⟩, A410, H⟩ := H
        replace H : ((suffix_Common.f k2 t265 (wrap64 (Int.tmod (IntKind.u64.wrap (a2)) (IntKind.u64.wrap ((t265.length : Int))))) (wrap64 (Int.tmod (IntKind.u64.wrap (a3)) (IntKind.u64.wrap ((t265.length : Int)))))).bind fun bt289 => ((some (([] : List Int) : List Int)).bind fun y291 => (if y291.length + t272.length < 17592186044416 then ((some (y291 ++ t272 : List Int)).bind fun y294 => (if 0 ≤ (wrap64 (Int.tmod (IntKind.u64.wrap (a3)) (IntKind.u64.wrap ((t265.length : Int))))) then (if (wrap64 (Int.tmod (IntKind.u64.wrap (a3)) (IntKind.u64.wrap ((t265.length : Int))))) < (y294.length : Int) then (if 0 ≤ (wrap64 (Int.tmod (IntKind.u64.wrap (a2)) (IntKind.u64.wrap ((t265.length : Int))))) then (if (wrap64 (Int.tmod (IntKind.u64.wrap (a2)) (IntKind.u64.wrap ((t265.length : Int))))) < (y294.length : Int) then ((some ((y294.set ((wrap64 (Int.tmod (IntKind.u64.wrap (a2)) (IntKind.u64.wrap ((t265.length : Int))))) : Int).toNat (rd y294 (wrap64 (Int.tmod (IntKind.u64.wrap (a3)) (IntKind.u64.wrap ((t265.length : Int))))))).set ((wrap64 (Int.tmod (IntKind.u64.wrap (a3)) (IntKind.u64.wrap ((t265.length : Int))))) : Int).toNat (rd y294 (wrap64 (Int.tmod (IntKind.u64.wrap (a2)) (IntKind.u64.wrap ((t265.length : Int)))))) : List Int)).bind fun y300 => ((suffix_Commons.f k2 t265 y300).bind fun bt301 => ((incipitlaw15_known.f k2).bind fun t305 => (if t305 = true then (if t288 = 0 then ((incipitref15_Less.f k2 t265 (wrap64 (Int.tmod (IntKind.u64.wrap (a2)) (IntKind.u64.wrap ((t265.length : Int))))) (wrap64 (Int.tmod (IntKind.u64.wrap (a3)) (IntKind.u64.wrap ((t265.length : Int)))))).bind fun t306 => (if (t287 == t306) = true then (if bt289.2 = 0 then ((incipitref15_Common.f k2 t265 (wrap64 (Int.tmod (IntKind.u64.wrap (a2)) (IntKind.u64.wrap ((t265.length : Int))))) (wrap64 (Int.tmod (IntKind.u64.wrap (a3)) (IntKind.u64.wrap ((t265.length : Int)))))).bind fun t307 => (if bt289.1 = t307 then ((suffix_Right.f k2 t265 y300).bind fun t308 => (if (t308 == ((wrap64 (Int.tmod (IntKind.u64.wrap (a2)) (IntKind.u64.wrap ((t265.length : Int))))) == (wrap64 (Int.tmod (IntKind.u64.wrap (a3)) (IntKind.u64.wrap ((t265.length : Int))))))) = true then (some ((bt301.2 == 0) == ((wrap64 (Int.tmod (IntKind.u64.wrap (a2)) (IntKind.u64.wrap ((t265.length : Int))))) == (wrap64 (Int.tmod (IntKind.u64.wrap (a3)) (IntKind.u64.wrap ((t265.length : Int)))))))) else (some false))) else (some false))) else (some false)) else (some false))) else (some false)) else (some false))))) else (none)) else (none)) else (none)) else (none))) else (none)))) = some r := H
        have A41 := Aside0.mk A410
        clear A410
        replace H := Option.bind_eq_some_iff.mp H
        obtain ⟨⟨t289, t290⟩, A420, H⟩ := H
        replace H : ((some (([] : List Int) : List Int)).bind fun y291 => (if y291.length + t272.length < 17592186044416 then ((some (y291 ++ t272 : List Int)).bind fun y294 => (if 0 ≤ (wrap64 (Int.tmod (IntKind.u64.wrap (a3)) (IntKind.u64.wrap ((t265.length : Int))))) then (if (wrap64 (Int.tmod (IntKind.u64.wrap (a3)) (IntKind.u64.wrap ((t265.length : Int))))) < (y294.length : Int) then (if 0 ≤ (wrap64 (Int.tmod (IntKind.u64.wrap (a2)) (IntKind.u64.wrap ((t265.length : Int))))) then (if (wrap64 (Int.tmod (IntKind.u64.wrap (a2)) (IntKind.u64.wrap ((t265.length : Int))))) < (y294.length : Int) then ((some ((y294.set ((wrap64 (Int.tmod (IntKind.u64.wrap (a2)) (IntKind.u64.wrap ((t265.length : Int))))) : Int).toNat (rd y294 (wrap64 (Int.tmod (IntKind.u64.wrap (a3)) (IntKind.u64.wrap ((t265.length : Int))))))).set ((wrap64 (Int.tmod (IntKind.u64.wrap (a3)) (IntKind.u64.wrap ((t265.length : Int))))) : Int).toNat (rd y294 (wrap64 (Int.tmod (IntKind.u64.wrap (a2)) (IntKind.u64.wrap ((t265.length : Int)))))) : List Int)).bind fun y300 => ((suffix_Commons.f k2 t265 y300).bind fun bt301 => ((incipitlaw15_known.f k2).bind fun t305 => (if t305 = true then (if t288 = 0 then ((incipitref15_Less.f k2 t265 (wrap64 (Int.tmod (IntKind.u64.wrap (a2)) (IntKind.u64.wrap ((t265.length : Int))))) (wrap64 (Int.tmod (IntKind.u64.wrap (a3)) (IntKind.u64.wrap ((t265.length : Int)))))).bind fun t306 => (if (t287 == t306) = true then (if t290 = 0 then ((incipitref15_Common.f k2 t265 (wrap64 (Int.tmod (IntKind.u64.wrap (a2)) (IntKind.u64.wrap ((t265.length : Int))))) (wrap64 (Int.tmod (IntKind.u64.wrap (a3)) (IntKind.u64.wrap ((t265.length : Int)))))).bind fun t307 => (if t289 = t307 then ((suffix_Right.f k2 t265 y300).bind fun t308 => (if (t308 == ((wrap64 (Int.tmod (IntKind.u64.wrap (a2)) (IntKind.u64.wrap ((t265.length : Int))))) == (wrap64 (Int.tmod (IntKind.u64.wrap (a3)) (IntKind.u64.wrap ((t265.length : Int))))))) = true then (some ((bt301.2 == 0) == ((wrap64 (Int.tmod (IntKind.u64.wrap (a2)) (IntKind.u64.wrap ((t265.length : Int))))) == (wrap64 (Int.tmod (IntKind.u64.wrap (a3)) (IntKind.u64.wrap ((t265.length : Int)))))))) else (some false))) else (some false))) else (some false)) else (some false))) else (some false)) else (some false))))) else (none)) else (none)) else (none)) else (none))) else (none))) = some r := H
        have A42 := Aside0.mk A420
        clear A420
        obtain ⟨y291, hy291⟩ : ∃ y_ : List Int, y_ = (([] : List Int)) := ⟨_, rfl⟩
        replace H : (if y291.length + t272.length < 17592186044416 then ((some (y291 ++ t272 : List Int)).bind fun y294 => (if 0 ≤ (wrap64 (Int.tmod (IntKind.u64.wrap (a3)) (IntKind.u64.wrap ((t265.length : Int))))) then (if (wrap64 (Int.tmod (IntKind.u64.wrap (a3)) (IntKind.u64.wrap ((t265.length : Int))))) < (y294.length : Int) then (if 0 ≤ (wrap64 (Int.tmod (IntKind.u64.wrap (a2)) (IntKind.u64.wrap ((t265.length : Int))))) then (if (wrap64 (Int.tmod (IntKind.u64.wrap (a2)) (IntKind.u64.wrap ((t265.length : Int))))) < (y294.length : Int) then ((some ((y294.set ((wrap64 (Int.tmod (IntKind.u64.wrap (a2)) (IntKind.u64.wrap ((t265.length : Int))))) : Int).toNat (rd y294 (wrap64 (Int.tmod (IntKind.u64.wrap (a3)) (IntKind.u64.wrap ((t265.length : Int))))))).set ((wrap64 (Int.tmod (IntKind.u64.wrap (a3)) (IntKind.u64.wrap ((t265.length : Int))))) : Int).toNat (rd y294 (wrap64 (Int.tmod (IntKind.u64.wrap (a2)) (IntKind.u64.wrap ((t265.length : Int)))))) : List Int)).bind fun y300 => ((suffix_Commons.f k2 t265 y300).bind fun bt301 => ((incipitlaw15_known.f k2).bind fun t305 => (if t305 = true then (if t288 = 0 then ((incipitref15_Less.f k2 t265 (wrap64 (Int.tmod (IntKind.u64.wrap (a2)) (IntKind.u64.wrap ((t265.length : Int))))) (wrap64 (Int.tmod (IntKind.u64.wrap (a3)) (IntKind.u64.wrap ((t265.length : Int)))))).bind fun t306 => (if (t287 == t306) = true then (if t290 = 0 then ((incipitref15_Common.f k2 t265 (wrap64 (Int.tmod (IntKind.u64.wrap (a2)) (IntKind.u64.wrap ((t265.length : Int))))) (wrap64 (Int.tmod (IntKind.u64.wrap (a3)) (IntKind.u64.wrap ((t265.length : Int)))))).bind fun t307 => (if t289 = t307 then ((suffix_Right.f k2 t265 y300).bind fun t308 => (if (t308 == ((wrap64 (Int.tmod (IntKind.u64.wrap (a2)) (IntKind.u64.wrap ((t265.length : Int))))) == (wrap64 (Int.tmod (IntKind.u64.wrap (a3)) (IntKind.u64.wrap ((t265.length : Int))))))) = true then (some ((bt301.2 == 0) == ((wrap64 (Int.tmod (IntKind.u64.wrap (a2)) (IntKind.u64.wrap ((t265.length : Int))))) == (wrap64 (Int.tmod (IntKind.u64.wrap (a3)) (IntKind.u64.wrap ((t265.length : Int)))))))) else (some false))) else (some false))) else (some false)) else (some false))) else (some false)) else (some false))))) else (none)) else (none)) else (none)) else (none))) else (none)) = some r := by first | (rw [hy291]; with_reducible exact H) | (have H2_ := (Option.bind_some _ _).symm.trans H; rw [hy291]; with_reducible exact H2_) | (have H2_ := (Option.bind_some _ _).symm.trans H; with_reducible exact H2_) | with_reducible exact H | (rw [hy291]; exact H) | exact H
        have Ny291 := Aside0.mk hy291
        clear hy291
        by_cases c43 : y291.length + t272.length < 17592186044416
        ·rw [if_pos c43] at H
         have LMc43 := Aside0.mk c43
         clear c43
         obtain ⟨y294, hy294⟩ : ∃ y_ : List Int, y_ = (y291 ++ t272) := ⟨_, rfl⟩
         replace H : (if 0 ≤ (wrap64 (Int.tmod (IntKind.u64.wrap (a3)) (IntKind.u64.wrap ((t265.length : Int))))) then (if (wrap64 (Int.tmod (IntKind.u64.wrap (a3)) (IntKind.u64.wrap ((t265.length : Int))))) < (y294.length : Int) then (if 0 ≤ (wrap64 (Int.tmod (IntKind.u64.wrap (a2)) (IntKind.u64.wrap ((t265.length : Int))))) then (if (wrap64 (Int.tmod (IntKind.u64.wrap (a2)) (IntKind.u64.wrap ((t265.length : Int))))) < (y294.length : Int) then ((some ((y294.set ((wrap64 (Int.tmod (IntKind.u64.wrap (a2)) (IntKind.u64.wrap ((t265.length : Int))))) : Int).toNat (rd y294 (wrap64 (Int.tmod (IntKind.u64.wrap (a3)) (IntKind.u64.wrap ((t265.length : Int))))))).set ((wrap64 (Int.tmod (IntKind.u64.wrap (a3)) (IntKind.u64.wrap ((t265.length : Int))))) : Int).toNat (rd y294 (wrap64 (Int.tmod (IntKind.u64.wrap (a2)) (IntKind.u64.wrap ((t265.length : Int)))))) : List Int)).bind fun y300 => ((suffix_Commons.f k2 t265 y300).bind fun bt301 => ((incipitlaw15_known.f k2).bind fun t305 => (if t305 = true then (if t288 = 0 then ((incipitref15_Less.f k2 t265 (wrap64 (Int.tmod (IntKind.u64.wrap (a2)) (IntKind.u64.wrap ((t265.length : Int))))) (wrap64 (Int.tmod (IntKind.u64.wrap (a3)) (IntKind.u64.wrap ((t265.length : Int)))))).bind fun t306 => (if (t287 == t306) = true then (if t290 = 0 then ((incipitref15_Common.f k2 t265 (wrap64 (Int.tmod (IntKind.u64.wrap (a2)) (IntKind.u64.wrap ((t265.length : Int))))) (wrap64 (Int.tmod (IntKind.u64.wrap (a3)) (IntKind.u64.wrap ((t265.length : Int)))))).bind fun t307 => (if t289 = t307 then ((suffix_Right.f k2 t265 y300).bind fun t308 => (if (t308 == ((wrap64 (Int.tmod (IntKind.u64.wrap (a2)) (IntKind.u64.wrap ((t265.length : Int))))) == (wrap64 (Int.tmod (IntKind.u64.wrap (a3)) (IntKind.u64.wrap ((t265.length : Int))))))) = true then (some ((bt301.2 == 0) == ((wrap64 (Int.tmod (IntKind.u64.wrap (a2)) (IntKind.u64.wrap ((t265.length : Int))))) == (wrap64 (Int.tmod (IntKind.u64.wrap (a3)) (IntKind.u64.wrap ((t265.length : Int)))))))) else (some false))) else (some false))) else (some false)) else (some false))) else (some false)) else (some false))))) else (none)) else (none)) else (none)) else (none)) = some r := by first | (rw [hy294]; with_reducible exact H) | (have H2_ := (Option.bind_some _ _).symm.trans H; rw [hy294]; with_reducible exact H2_) | (have H2_ := (Option.bind_some _ _).symm.trans H; with_reducible exact H2_) | with_reducible exact H | (rw [hy294]; exact H) | exact H
         have Ny294 := Aside0.mk hy294
         clear hy294
         obtain ⟨ji44, hji44⟩ : ∃ j_ : Int, (wrap64 (Int.tmod (IntKind.u64.wrap (a3)) (IntKind.u64.wrap ((t265.length : Int))))) = j_ := ⟨_, rfl⟩
         replace H : (if 0 ≤ (ji44) then (if (ji44) < (y294.length : Int) then (if 0 ≤ (wrap64 (Int.tmod (IntKind.u64.wrap (a2)) (IntKind.u64.wrap ((t265.length : Int))))) then (if (wrap64 (Int.tmod (IntKind.u64.wrap (a2)) (IntKind.u64.wrap ((t265.length : Int))))) < (y294.length : Int) then ((some ((y294.set ((wrap64 (Int.tmod (IntKind.u64.wrap (a2)) (IntKind.u64.wrap ((t265.length : Int))))) : Int).toNat (rd y294 (ji44))).set ((ji44) : Int).toNat (rd y294 (wrap64 (Int.tmod (IntKind.u64.wrap (a2)) (IntKind.u64.wrap ((t265.length : Int)))))) : List Int)).bind fun y300 => ((suffix_Commons.f k2 t265 y300).bind fun bt301 => ((incipitlaw15_known.f k2).bind fun t305 => (if t305 = true then (if t288 = 0 then ((incipitref15_Less.f k2 t265 (wrap64 (Int.tmod (IntKind.u64.wrap (a2)) (IntKind.u64.wrap ((t265.length : Int))))) (ji44)).bind fun t306 => (if (t287 == t306) = true then (if t290 = 0 then ((incipitref15_Common.f k2 t265 (wrap64 (Int.tmod (IntKind.u64.wrap (a2)) (IntKind.u64.wrap ((t265.length : Int))))) (ji44)).bind fun t307 => (if t289 = t307 then ((suffix_Right.f k2 t265 y300).bind fun t308 => (if (t308 == ((wrap64 (Int.tmod (IntKind.u64.wrap (a2)) (IntKind.u64.wrap ((t265.length : Int))))) == (ji44))) = true then (some ((bt301.2 == 0) == ((wrap64 (Int.tmod (IntKind.u64.wrap (a2)) (IntKind.u64.wrap ((t265.length : Int))))) == (ji44)))) else (some false))) else (some false))) else (some false)) else (some false))) else (some false)) else (some false))))) else (none)) else (none)) else (none)) else (none)) = some r := by first | (rw [hji44] at H; exact H) | (simp only [hji44] at H ⊢; exact H)
         (try rw [hji44] at A41)
         (try rw [hji44] at A42)
         have hji44w : (IntKind.i64.wrap (Int.tmod (IntKind.u64.wrap (a3)) (IntKind.u64.wrap ((t265.length : Int))))) = ji44 := (i64_w _).trans hji44
         by_cases c45 : 0 ≤ (ji44)
         ·rw [if_pos c45] at H
          have c45b0 : decide (0 ≤ (ji44)) = true := decide_eq_true c45
          clear c45
          by_cases c46 : (ji44) < (y294.length : Int)
          ·rw [if_pos c46] at H
           have c46b0 : decide ((ji44) < (y294.length : Int)) = true := decide_eq_true c46
           clear c46
           obtain ⟨ji47, hji47⟩ : ∃ j_ : Int, (wrap64 (Int.tmod (IntKind.u64.wrap (a2)) (IntKind.u64.wrap ((t265.length : Int))))) = j_ := ⟨_, rfl⟩
           replace H : (if 0 ≤ (ji47) then (if (ji47) < (y294.length : Int) then ((some ((y294.set ((ji47) : Int).toNat (rd y294 (ji44))).set ((ji44) : Int).toNat (rd y294 (ji47)) : List Int)).bind fun y300 => ((suffix_Commons.f k2 t265 y300).bind fun bt301 => ((incipitlaw15_known.f k2).bind fun t305 => (if t305 = true then (if t288 = 0 then ((incipitref15_Less.f k2 t265 (ji47) (ji44)).bind fun t306 => (if (t287 == t306) = true then (if t290 = 0 then ((incipitref15_Common.f k2 t265 (ji47) (ji44)).bind fun t307 => (if t289 = t307 then ((suffix_Right.f k2 t265 y300).bind fun t308 => (if (t308 == ((ji47) == (ji44))) = true then (some ((bt301.2 == 0) == ((ji47) == (ji44)))) else (some false))) else (some false))) else (some false)) else (some false))) else (some false)) else (some false))))) else (none)) else (none)) = some r := by first | (rw [hji47] at H; exact H) | (simp only [hji47] at H ⊢; exact H)
           (try rw [hji47] at A41)
           (try rw [hji47] at A42)
           have hji47w : (IntKind.i64.wrap (Int.tmod (IntKind.u64.wrap (a2)) (IntKind.u64.wrap ((t265.length : Int))))) = ji47 := (i64_w _).trans hji47
           by_cases c48 : 0 ≤ (ji47)
           ·rw [if_pos c48] at H
            have c48b0 : decide (0 ≤ (ji47)) = true := decide_eq_true c48
            clear c48
            by_cases c49 : (ji47) < (y294.length : Int)
            ·rw [if_pos c49] at H
             have c49b0 : decide ((ji47) < (y294.length : Int)) = true := decide_eq_true c49
             clear c49
             obtain ⟨y299, hy299⟩ : ∃ y_ : List Int, y_ = (y294.set ((ji47) : Int).toNat (rd y294 (ji44))) := ⟨_, rfl⟩
             replace H : ((some (y299.set ((ji44) : Int).toNat (rd y294 (ji47)) : List Int)).bind fun y300 => ((suffix_Commons.f k2 t265 y300).bind fun bt301 => ((incipitlaw15_known.f k2).bind fun t305 => (if t305 = true then (if t288 = 0 then ((incipitref15_Less.f k2 t265 (ji47) (ji44)).bind fun t306 => (if (t287 == t306) = true then (if t290 = 0 then ((incipitref15_Common.f k2 t265 (ji47) (ji44)).bind fun t307 => (if t289 = t307 then ((suffix_Right.f k2 t265 y300).bind fun t308 => (if (t308 == ((ji47) == (ji44))) = true then (some ((bt301.2 == 0) == ((ji47) == (ji44)))) else (some false))) else (some false))) else (some false)) else (some false))) else (some false)) else (some false))))) = some r := by first | (rw [hy299]; with_reducible exact H) | (have H2_ := (Option.bind_some _ _).symm.trans H; rw [hy299]; with_reducible exact H2_) | (have H2_ := (Option.bind_some _ _).symm.trans H; with_reducible exact H2_) | with_reducible exact H | (rw [hy299]; exact H) | exact H
             have Ny299 := Aside0.mk hy299
             clear hy299
             obtain ⟨y300, hy300⟩ : ∃ y_ : List Int, y_ = (y299.set ((ji44) : Int).toNat (rd y294 (ji47))) := ⟨_, rfl⟩
             replace H : ((suffix_Commons.f k2 t265 y300).bind fun bt301 => ((incipitlaw15_known.f k2).bind fun t305 => (if t305 = true then (if t288 = 0 then ((incipitref15_Less.f k2 t265 (ji47) (ji44)).bind fun t306 => (if (t287 == t306) = true then (if t290 = 0 then ((incipitref15_Common.f k2 t265 (ji47) (ji44)).bind fun t307 => (if t289 = t307 then ((suffix_Right.f k2 t265 y300).bind fun t308 => (if (t308 == ((ji47) == (ji44))) = true then (some ((bt301.2 == 0) == ((ji47) == (ji44)))) else (some false))) else (some false))) else (some false)) else (some false))) else (some false)) else (some false)))) = some r := by first | (rw [hy300]; with_reducible exact H) | (have H2_ := (Option.bind_some _ _).symm.trans H; rw [hy300]; with_reducible exact H2_) | (have H2_ := (Option.bind_some _ _).symm.trans H; with_reducible exact H2_) | with_reducible exact H | (rw [hy300]; exact H) | exact H
             have Ny300 := Aside0.mk hy300
             clear hy300
             replace H := Option.bind_eq_some_iff.mp H
             obtain ⟨⟨t301, t302⟩, A520, H⟩ := H
             replace H : ((incipitlaw15_known.f k2).bind fun t305 => (if t305 = true then (if t288 = 0 then ((incipitref15_Less.f k2 t265 (ji47) (ji44)).bind fun t306 => (if (t287 == t306) = true then (if t290 = 0 then ((incipitref15_Common.f k2 t265 (ji47) (ji44)).bind fun t307 => (if t289 = t307 then ((suffix_Right.f k2 t265 y300).bind fun t308 => (if (t308 == ((ji47) == (ji44))) = true then (some ((t302 == 0) == ((ji47) == (ji44)))) else (some false))) else (some false))) else (some false)) else (some false))) else (some false)) else (some false))) = some r := H
             have A52 := Aside0.mk A520
             clear A520
             replace H := Option.bind_eq_some_iff.mp H
             obtain ⟨t305, A530, H⟩ := H
             replace H : (if t305 = true then (if t288 = 0 then ((incipitref15_Less.f k2 t265 (ji47) (ji44)).bind fun t306 => (if (t287 == t306) = true then (if t290 = 0 then ((incipitref15_Common.f k2 t265 (ji47) (ji44)).bind fun t307 => (if t289 = t307 then ((suffix_Right.f k2 t265 y300).bind fun t308 => (if (t308 == ((ji47) == (ji44))) = true then (some ((t302 == 0) == ((ji47) == (ji44)))) else (some false))) else (some false))) else (some false)) else (some false))) else (some false)) else (some false)) = some r := H
             have A53 := Aside0.mk A530
             clear A530
             by_cases c54 : t305 = true
             ·subst c54
              have H1 : (if t288 = 0 then ((incipitref15_Less.f k2 t265 (ji47) (ji44)).bind fun t306 => (if (t287 == t306) = true then (if t290 = 0 then ((incipitref15_Common.f k2 t265 (ji47) (ji44)).bind fun t307 => (if t289 = t307 then ((suffix_Right.f k2 t265 y300).bind fun t308 => (if (t308 == ((ji47) == (ji44))) = true then (some ((t302 == 0) == ((ji47) == (ji44)))) else (some false))) else (some false))) else (some false)) else (some false))) else (some false)) = some r := by rw [if_pos rfl] at H; exact H
              clear H
              have H := H1
              clear H1
              by_cases c55 : t288 = 0
              ·rw [if_pos c55] at H
               have c55b0 : (t288 == 0) = true := beq_iff_eq.mpr c55
               have c55b1 : (t288 != 0) = false := bne_eq_false_iff_eq.mpr c55
               clear c55
               replace H := Option.bind_eq_some_iff.mp H
               obtain ⟨t306, A560, H⟩ := H
               replace H : (if (t287 == t306) = true then (if t290 = 0 then ((incipitref15_Common.f k2 t265 (ji47) (ji44)).bind fun t307 => (if t289 = t307 then ((suffix_Right.f k2 t265 y300).bind fun t308 => (if (t308 == ((ji47) == (ji44))) = true then (some ((t302 == 0) == ((ji47) == (ji44)))) else (some false))) else (some false))) else (some false)) else (some false)) = some r := H
               have A56 := Aside0.mk A560
               clear A560
               by_cases c57 : (t287 == t306) = true
               ·rw [if_pos c57] at H
                have c57b0 : (t287 == t306) = true := c57
                (try (have c57b1 : decide (t287 = t306) = true := by simpa using c57))
                (try (have c57b2 : (t287 == t306) = true := by simpa using c57))
                clear c57
                by_cases c58 : t290 = 0
                ·rw [if_pos c58] at H
                 have c58b0 : (t290 == 0) = true := beq_iff_eq.mpr c58
                 have c58b1 : (t290 != 0) = false := bne_eq_false_iff_eq.mpr c58
                 clear c58
                 replace H := Option.bind_eq_some_iff.mp H
                 obtain ⟨t307, A590, H⟩ := H
                 replace H : (if t289 = t307 then ((suffix_Right.f k2 t265 y300).bind fun t308 => (if (t308 == ((ji47) == (ji44))) = true then (some ((t302 == 0) == ((ji47) == (ji44)))) else (some false))) else (some false)) = some r := H
                 have A59 := Aside0.mk A590
                 clear A590
                 by_cases c60 : t289 = t307
                 ·rw [if_pos c60] at H
                  have c60b0 : (t289 == t307) = true := beq_iff_eq.mpr c60
                  have c60b1 : (t289 != t307) = false := bne_eq_false_iff_eq.mpr c60
                  clear c60
                  replace H := Option.bind_eq_some_iff.mp H
                  obtain ⟨t308, A610, H⟩ := H
                  replace H : (if (t308 == ((ji47) == (ji44))) = true then (some ((t302 == 0) == ((ji47) == (ji44)))) else (some false)) = some r := H
                  have A61 := Aside0.mk A610
                  clear A610
                  by_cases c62 : (t308 == ((ji47) == (ji44))) = true
                  ·rw [if_pos c62] at H
                   have c62b0 : (t308 == ((ji47) == (ji44))) = true := c62
                   (try (have c62b1 : decide (t308 = ((ji47) == (ji44))) = true := by simpa using c62))
                   (try (have c62b2 : (t308 == ((ji47) == (ji44))) = true := by simpa using c62))
                   clear c62
                   as_aux_lemma =>
                    obtain rfl := Option.some.inj H
                    obtain ⟨Ao63, co63, eo63⟩ := Kd.R_slice HO_13.out
                    subst eo63
                    try go_wp2
                    have n0_ := Aside0.mk (Kd.R_drew HO_9.out)
                    have n1_ := Aside0.mk (Kd.R_drew HO_12.out)
                    have n2_ := Aside0.mk (Kd.R_drew HO_13.out)
                    have n3_ := Aside0.mk (below_drew1 HB.out)
                    clear HO_9
                    clear HO_12
                    clear HO_13
                    clear HB
                    have HO_9 := n0_
                    have HO_12 := n1_
                    have HO_13 := n2_
                    have HB := n3_
                    clear n0_ n1_ n2_ n3_
                    refine start_ (n := 16) (S := fun w' => True) (ds := []) #[false, false, false, false, false, false, false, false, false, false, false, false, false, false, false, false] (by kernel_rfl) rfl rfl trivial (fun hHeld => ?_); refine with_tabW incipitlaw15_SuffixSorts.tab12 incipitlaw15_SuffixSorts.bits12 (fun HT_ HW_ => ?_)
                    generalize wr.drew = w64 at HO_9 HO_12 HO_13 HB hHeld ⊢
                    refine pure_ (i := 0) (N := some 101) (v := ?_) (a' := ?_) #[true, false, false, false, false, false, false, false, false, false, false, false, false, false, false, false] rfl rfl (any_of HT_.out (by kernel_rfl)) (fun _ _ _ h => h) (Or.inl ⟨by rfl, ?_⟩) ?_ ?_
                    rotate_left
                    ·intro w'
                     go_simp
                     with_reducible rfl
                    rotate_left
                    ·simp only [Act.put, List.setIfInBounds_toArray, List.set_cons_zero, List.set_cons_succ, i64_w, i32_w]
                     rfl
                    refine pure_ (i := 1) (N := some 102) (v := ?_) (a' := ?_) #[true, true, false, false, false, false, false, false, false, false, false, false, false, false, false, false] rfl rfl (any_of HT_.out (by kernel_rfl)) (fun _ _ _ h => h) (Or.inl ⟨by rfl, ?_⟩) ?_ ?_
                    rotate_left
                    ·intro w'
                     go_simp
                     with_reducible rfl
                    rotate_left
                    ·simp only [Act.put, List.setIfInBounds_toArray, List.set_cons_zero, List.set_cons_succ, i64_w, i32_w]
                     rfl
                    refine pure_ (i := 2) (N := some 103) (v := ?_) (a' := ?_) #[true, true, true, false, false, false, false, false, false, false, false, false, false, false, false, false] rfl rfl (any_of HT_.out (by kernel_rfl)) (fun _ _ _ h => h) (Or.inl ⟨by rfl, ?_⟩) ?_ ?_
                    rotate_left
                    ·intro w'
                     go_simp
                     with_reducible rfl
                    rotate_left
                    ·simp only [Act.put, List.setIfInBounds_toArray, List.set_cons_zero, List.set_cons_succ, i64_w, i32_w]
                     rfl
                    refine pure_ (i := 3) (N := some 104) (v := ?_) (a' := ?_) #[true, true, true, true, false, false, false, false, false, false, false, false, false, false, false, false] rfl rfl (any_of HT_.out (by kernel_rfl)) (fun _ _ _ h => h) (Or.inl ⟨by rfl, ?_⟩) ?_ ?_
                    rotate_left
                    ·intro w'
                     go_simp
                     with_reducible rfl
                    rotate_left
                    ·simp only [Act.put, List.setIfInBounds_toArray, List.set_cons_zero, List.set_cons_succ, i64_w, i32_w]
                     rfl
                    refine pure_ (i := 4) (N := some 105) (v := ?_) (a' := ?_) #[true, true, true, true, true, false, false, false, false, false, false, false, false, false, false, false] rfl rfl (any_of HT_.out (by kernel_rfl)) (fun _ _ _ h => h) (Or.inl ⟨by rfl, ?_⟩) ?_ ?_
                    rotate_left
                    ·intro w'
                     go_simp
                     with_reducible rfl
                    rotate_left
                    ·simp only [Act.put, List.setIfInBounds_toArray, List.set_cons_zero, List.set_cons_succ, i64_w, i32_w]
                     rfl
                    refine pure_ (i := 5) (N := some 106) (v := ?_) (a' := ?_) #[true, true, true, true, true, true, false, false, false, false, false, false, false, false, false, false] rfl rfl (any_of HT_.out (by kernel_rfl)) (fun _ _ _ h => h) (Or.inl ⟨by rfl, ?_⟩) ?_ ?_
                    rotate_left
                    ·intro w'
                     go_simp
                     with_reducible rfl
                    rotate_left
                    ·simp only [Act.put, List.setIfInBounds_toArray, List.set_cons_zero, List.set_cons_succ, i64_w, i32_w]
                     rfl
                    refine pure_ (i := 6) (N := some 107) (v := ?_) (a' := ?_) #[true, true, true, true, true, true, true, false, false, false, false, false, false, false, false, false] rfl rfl (any_of HT_.out (by kernel_rfl)) (fun _ _ _ h => h) (Or.inl ⟨by rfl, ?_⟩) ?_ ?_
                    rotate_left
                    ·intro w'
                     go_simp
                     with_reducible rfl
                    rotate_left
                    ·simp only [Act.put, List.setIfInBounds_toArray, List.set_cons_zero, List.set_cons_succ, i64_w, i32_w]
                     rfl
                    refine pure_ (i := 7) (N := some 108) (v := ?_) (a' := ?_) #[true, true, true, true, true, true, true, true, false, false, false, false, false, false, false, false] rfl rfl (any_of HT_.out (by kernel_rfl)) (fun _ _ _ h => h) (Or.inl ⟨by rfl, ?_⟩) ?_ ?_
                    rotate_left
                    ·intro w'
                     go_simp
                     with_reducible rfl
                    rotate_left
                    ·simp only [Act.put, List.setIfInBounds_toArray, List.set_cons_zero, List.set_cons_succ, i64_w, i32_w]
                     rfl
                    refine pure_ (i := 8) (N := some 109) (v := ?_) (a' := ?_) #[true, true, true, true, true, true, true, true, true, false, false, false, false, false, false, false] rfl rfl (any_of HT_.out (by kernel_rfl)) (fun _ _ _ h => h) (Or.inl ⟨by rfl, ?_⟩) ?_ ?_
                    rotate_left
                    ·intro w'
                     go_simp
                     with_reducible rfl
                    rotate_left
                    ·simp only [Act.put, List.setIfInBounds_toArray, List.set_cons_zero, List.set_cons_succ, i64_w, i32_w]
                     rfl
                    refine pure_ (i := 9) (N := some 110) (v := ?_) (a' := ?_) #[true, true, true, true, true, true, true, true, true, true, false, false, false, false, false, false] rfl rfl (any_of HT_.out (by kernel_rfl)) (fun _ _ _ h => h) (Or.inl ⟨by rfl, ?_⟩) ?_ ?_
                    rotate_left
                    ·intro w'
                     go_simp
                     with_reducible rfl
                    rotate_left
                    ·simp only [Act.put, List.setIfInBounds_toArray, List.set_cons_zero, List.set_cons_succ, i64_w, i32_w]
                     rfl
                    refine pure_ (i := 10) (N := some 111) (v := ?_) (a' := ?_) #[true, true, true, true, true, true, true, true, true, true, true, false, false, false, false, false] rfl rfl (any_of HT_.out (by kernel_rfl)) (fun _ _ _ h => h) (Or.inl ⟨by rfl, ?_⟩) ?_ ?_
                    rotate_left
                    ·intro w'
                     go_simp
                     with_reducible rfl
                    rotate_left
                    ·simp only [Act.put, List.setIfInBounds_toArray, List.set_cons_zero, List.set_cons_succ, i64_w, i32_w]
                     rfl
                    refine pure_ (i := 11) (N := some 112) (v := ?_) (a' := ?_) #[true, true, true, true, true, true, true, true, true, true, true, true, false, false, false, false] rfl rfl (any_of HT_.out (by kernel_rfl)) (fun _ _ _ h => h) (Or.inl ⟨by rfl, ?_⟩) ?_ ?_
                    rotate_left
                    ·intro w'
                     go_simp
                     with_reducible rfl
                    rotate_left
                    ·simp only [Act.put, List.setIfInBounds_toArray, List.set_cons_zero, List.set_cons_succ, i64_w, i32_w]
                     rfl
                    refine pure_ (i := 12) (N := some 113) (v := ?_) (a' := ?_) #[true, true, true, true, true, true, true, true, true, true, true, true, true, false, false, false] rfl rfl (any_of HT_.out (by kernel_rfl)) (fun _ _ _ h => h) (Or.inl ⟨by rfl, ?_⟩) ?_ ?_
                    rotate_left
                    ·intro w'
                     go_simp
                     with_reducible rfl
                    rotate_left
                    ·simp only [Act.put, List.setIfInBounds_toArray, List.set_cons_zero, List.set_cons_succ, i64_w, i32_w]
                     rfl
                    refine pure_ (i := 13) (N := some 114) (v := ?_) (a' := ?_) #[true, true, true, true, true, true, true, true, true, true, true, true, true, true, false, false] rfl rfl (any_of HT_.out (by kernel_rfl)) (fun _ _ _ h => h) (Or.inl ⟨by rfl, ?_⟩) ?_ ?_
                    rotate_left
                    ·intro w'
                     go_simp
                     with_reducible rfl
                    rotate_left
                    ·simp only [Act.put, List.setIfInBounds_toArray, List.set_cons_zero, List.set_cons_succ, i64_w, i32_w]
                     rfl
                    refine pure_ (i := 14) (N := some 2) (v := ?_) (a' := ?_) #[true, true, true, true, true, true, true, true, true, true, true, true, true, true, true, false] rfl rfl (any_of HT_.out (by kernel_rfl)) (fun _ _ _ h => h) (Or.inl ⟨by rfl, ?_⟩) ?_ ?_
                    rotate_left
                    ·intro w'
                     go_simp
                     with_reducible rfl
                    rotate_left
                    ·simp only [Act.put, List.setIfInBounds_toArray, List.set_cons_zero, List.set_cons_succ, i64_w, i32_w]
                     rfl
                    refine pure_ (i := 15) (N := some 3) (v := ?_) (a' := ?_) #[true, true, true, true, true, true, true, true, true, true, true, true, true, true, true, true] rfl rfl (any_of HT_.out (by kernel_rfl)) (fun _ _ _ h => h) (Or.inl ⟨by rfl, ?_⟩) ?_ ?_
                    rotate_left
                    ·intro w'
                     go_simp
                     with_reducible rfl
                    rotate_left
                    ·simp only [Act.put, List.setIfInBounds_toArray, List.set_cons_zero, List.set_cons_succ, i64_w, i32_w]
                     rfl
                    refine done_ (done_of HT_.out (by kernel_rfl)) ?_
                    try go_wp2_with (first | ((with_reducible refine gate_callee (f := 29) rfl ?_); refine goesL_ (some 119) rfl rfl Try.func29 (by kernel_rfl) rfl #[.slice Ao11 t265.length co11, .int .i64 ji47, .int .i64 ji44] rfl (by (try simp only [List.map_toArray, List.map_cons, List.map_nil]); first | done | (simp only [hji44, hji47]; rfl) | rfl | (simp only [List.length_drop, List.length_take]; rfl)) ?_; (with_reducible refine (suffix_Less.calls k2 _ _ t265 ji47 ji44 t287 t288 _ ?side1 ?side2 A41.out).mono ?_); (case side1 => repeat (first | exact (Kd.R_reads' HO_9.out).2.2 | (with_reducible refine Kd.C_alloc ?_ _) | (with_reducible refine Kd.C_drewN ?_ _) | (with_reducible refine Kd.C_drew ?_))); (case side2 => exact (Kd.R_reads' HO_9.out).2.1); rintro e w65 ⟨rfl, hb⟩; refine ⟨_, rfl, ?_⟩; have n0_ := Aside0.mk (Kd.R_below (by (with_reducible repeat (first | apply Kd.R_alloc | apply Kd.R_drewN | apply Kd.R_drew)); exact HO_9.out) hb); have n1_ := Aside0.mk (Kd.R_below (by (with_reducible repeat (first | apply Kd.R_alloc | apply Kd.R_drewN | apply Kd.R_drew)); exact HO_12.out) hb); have n2_ := Aside0.mk (Kd.R_below (by (with_reducible repeat (first | apply Kd.R_alloc | apply Kd.R_drewN | apply Kd.R_drew)); exact HO_13.out) hb); have n3_ := Aside0.mk (below_step (by repeat (first | (with_reducible first | exact HB.out | apply below_alloc | apply pw_below_drewN | apply below_drew1) | exact HB.out)) hb); clear HO_9; clear HO_12; clear HO_13; clear HB; have HO_9 := n0_; have HO_12 := n1_; have HO_13 := n2_; have HB := n3_; clear n0_ n1_ n2_ n3_; (try clear hb); (try clear hb2); (try clear hk); (try clear hi)) | ((with_reducible refine gate_callee (f := 30) rfl ?_); refine goesL_ (some 126) rfl rfl Try.func30 (by kernel_rfl) rfl #[.slice Ao11 t265.length co11, .int .i64 ji47, .int .i64 ji44] rfl (by (try simp only [List.map_toArray, List.map_cons, List.map_nil]); first | done | (simp only [hji44, hji47]; rfl) | rfl | (simp only [List.length_drop, List.length_take]; rfl)) ?_; (with_reducible refine (suffix_Common.calls k2 _ _ t265 ji47 ji44 t289 t290 _ ?side1 ?side2 A42.out).mono ?_); (case side1 => repeat (first | exact (Kd.R_reads' HO_9.out).2.2 | (with_reducible refine Kd.C_alloc ?_ _) | (with_reducible refine Kd.C_drewN ?_ _) | (with_reducible refine Kd.C_drew ?_))); (case side2 => exact (Kd.R_reads' HO_9.out).2.1); rintro e w66 ⟨rfl, hb⟩; refine ⟨_, rfl, ?_⟩; have n0_ := Aside0.mk (Kd.R_below (by (with_reducible repeat (first | apply Kd.R_alloc | apply Kd.R_drewN | apply Kd.R_drew)); exact HO_9.out) hb); have n1_ := Aside0.mk (Kd.R_below (by (with_reducible repeat (first | apply Kd.R_alloc | apply Kd.R_drewN | apply Kd.R_drew)); exact HO_12.out) hb); have n2_ := Aside0.mk (Kd.R_below (by (with_reducible repeat (first | apply Kd.R_alloc | apply Kd.R_drewN | apply Kd.R_drew)); exact HO_13.out) hb); have n3_ := Aside0.mk (below_step (by repeat (first | (with_reducible first | exact HB.out | apply below_alloc | apply pw_below_drewN | apply below_drew1) | exact HB.out)) hb); clear HO_9; clear HO_12; clear HO_13; clear HB; have HO_9 := n0_; have HO_12 := n1_; have HO_13 := n2_; have HB := n3_; clear n0_ n1_ n2_ n3_; (try clear hb); (try clear hb2); (try clear hk); (try clear hi)) | ((with_reducible refine gate_dst (N := 129) rfl ?_); (try (refine gate_guard (by rfl) ?_; dsimp only)); refine Kd.R_lit (Kd.int .i64) _ 3 ?hg (N := 129) ?hd (xs := ([] : List Int)) (inner := []) (ok := fun _ => True) (okp := fun _ => True) ?hr ?hp (fun _ hk => hk) trivial (Below.refl _ _) (Nat.le_refl _) (by simp) ?_; (case hd => rfl); (case hg => rfl); (case hr => first | (go_simp; done) | (go_simp; rfl)); (case hp => exact (Reps.none _ _)); intro v292 w67 ho68 hb hg_ hnew_; clear hg_ hnew_; (first | rw [← Ny291.out] at ho68 | (simp only [Int.reduceToNat] at ho68; rw [← Ny291.out] at ho68)); have n0_ := Aside0.mk (Kd.R_elder' (by (with_reducible repeat (first | apply Kd.R_alloc | apply Kd.R_drewN | apply Kd.R_drew)); exact HO_9.out) (Kd.R_base ho68) hb); have n1_ := Aside0.mk (Kd.R_elder' (by (with_reducible repeat (first | apply Kd.R_alloc | apply Kd.R_drewN | apply Kd.R_drew)); exact HO_12.out) (Kd.R_base ho68) hb); have n2_ := Aside0.mk (Kd.R_elder' (by (with_reducible repeat (first | apply Kd.R_alloc | apply Kd.R_drewN | apply Kd.R_drew)); exact HO_13.out) (Kd.R_base ho68) hb); have n3_ := Aside0.mk (Kd.R_lower (Kd.R_new' (Kd.R_new' (Kd.R_new' ho68 (Kd.R_lt (by (with_reducible repeat (first | apply Kd.R_alloc | apply Kd.R_drewN | apply Kd.R_drew)); exact HO_9.out))) (Kd.R_lt (by (with_reducible repeat (first | apply Kd.R_alloc | apply Kd.R_drewN | apply Kd.R_drew)); exact HO_12.out))) (Kd.R_lt (by (with_reducible repeat (first | apply Kd.R_alloc | apply Kd.R_drewN | apply Kd.R_drew)); exact HO_13.out))) (below_size (by repeat (first | (with_reducible first | exact HB.out | apply below_alloc | apply pw_below_drewN | apply below_drew1) | exact HB.out)))); have n4_ := Aside0.mk (below_step (by repeat (first | (with_reducible first | exact HB.out | apply below_alloc | apply pw_below_drewN | apply below_drew1) | exact HB.out)) hb); clear HO_9; clear HO_12; clear HO_13; clear HB; have HO_9 := n0_; have HO_12 := n1_; have HO_13 := n2_; have HO293 := n3_; have HB := n4_; clear n0_ n1_ n2_ n3_ n4_; clear hb ho68) | ((with_reducible refine gate_builtin (b := .append) (xs := #[.tmp 129, .tmp 130]) rfl ?_); (try (refine gate_guard (by rfl) ?_; dsimp only)); at_builtin; refine Kd.R_append_rows (Kd.int .i64) (w0 := w) w.heap.size rfl (.tmp 129) (.tmp 130) 22 3 (.int .i64 0) 8 rfl Try.underlying22 info3 rfl (by decide) (by omega) v292 y291 t272 _ _ _ (fun k_ => some k_ ≠ (.slice Ao11 t265.length co11 : Value).ownBlock ∧ some k_ ≠ (.slice Ao14 t272.length co14 : Value).ownBlock ∧ some k_ ≠ (.slice Ao63 t275.length co63 : Value).ownBlock) (fun _ => False) rfl rfl ?aO ?aR (fun _ _ h => h) (fun _ h => h.elim) ?aF ?aB ?aS ?aL ?_; (case aR => repeat (first | exact (Kd.R_reads' HO_12.out).2.2 | (with_reducible refine Kd.C_alloc ?_ _) | (with_reducible refine Kd.C_drewN ?_ _) | (with_reducible refine Kd.C_drew ?_))); (case aB => exact (by repeat (first | (with_reducible first | exact HB.out | apply below_alloc | apply pw_below_drewN | apply below_drew1) | exact HB.out))); (case aF => exact (fun k_ hk => ⟨Kd.fresh' (Kd.R_lt (by (with_reducible repeat (first | apply Kd.R_alloc | apply Kd.R_drewN | apply Kd.R_drew)); exact HO_9.out)) k_ hk, Kd.fresh' (Kd.R_lt (by (with_reducible repeat (first | apply Kd.R_alloc | apply Kd.R_drewN | apply Kd.R_drew)); exact HO_12.out)) k_ hk, Kd.fresh' (Kd.R_lt (by (with_reducible repeat (first | apply Kd.R_alloc | apply Kd.R_drewN | apply Kd.R_drew)); exact HO_13.out)) k_ hk⟩)); (case aO => exact (by (with_reducible repeat (first | apply Kd.R_alloc | apply Kd.R_drewN | apply Kd.R_drew)); exact Kd.R_mono HO293.out (fun _ hk => ⟨hk.1.1.2, ⟨hk.1.2, hk.2⟩⟩))); (case aS => exact (below_size (by repeat (first | (with_reducible first | exact HB.out | apply below_alloc | apply pw_below_drewN | apply below_drew1) | exact HB.out)))); (case aL => have := LMc43.out; omega); intro v295 w69 ho hb hg hat; rw [← Ny294.out] at ho; have n0_ := Aside0.mk (Kd.R_after (ok := (fun k_ => some k_ ≠ (.slice Ao14 t272.length co14 : Value).ownBlock ∧ some k_ ≠ (.slice Ao63 t275.length co63 : Value).ownBlock)) (by (with_reducible repeat (first | apply Kd.R_alloc | apply Kd.R_drewN | apply Kd.R_drew)); exact HO_9.out) hg hat); have n1_ := Aside0.mk (Kd.R_after (ok := (fun k_ => some k_ ≠ (.slice Ao11 t265.length co11 : Value).ownBlock ∧ some k_ ≠ (.slice Ao63 t275.length co63 : Value).ownBlock)) (by (with_reducible repeat (first | apply Kd.R_alloc | apply Kd.R_drewN | apply Kd.R_drew)); exact HO_12.out) hg hat); have n2_ := Aside0.mk (Kd.R_after (ok := (fun k_ => some k_ ≠ (.slice Ao11 t265.length co11 : Value).ownBlock ∧ some k_ ≠ (.slice Ao14 t272.length co14 : Value).ownBlock)) (by (with_reducible repeat (first | apply Kd.R_alloc | apply Kd.R_drewN | apply Kd.R_drew)); exact HO_13.out) hg hat); have n3_ := Aside0.mk (hb); have n4_ := Aside0.mk (ho); clear HO_9; clear HO_12; clear HO_13; clear HB; clear HO293; have HO_9 := n0_; have HO_12 := n1_; have HO_13 := n2_; have HB := n3_; have HO296 := n4_; clear n0_ n1_ n2_ n3_ n4_; clear ho hb hg hat))
                    have n0_ := Aside0.mk (Kd.R_drew HO_9.out)
                    have n1_ := Aside0.mk (Kd.R_drew HO_12.out)
                    have n2_ := Aside0.mk (Kd.R_drew HO_13.out)
                    have n3_ := Aside0.mk (Kd.R_drew HO296.out)
                    have n4_ := Aside0.mk (below_drew1 HB.out)
                    clear HO_9
                    clear HO_12
                    clear HO_13
                    clear HO296
                    clear HB
                    have HO_9 := n0_
                    have HO_12 := n1_
                    have HO_13 := n2_
                    have HO296 := n3_
                    have HB := n4_
                    clear n0_ n1_ n2_ n3_ n4_
                    obtain ⟨Ao71, co71, eo71⟩ := Kd.R_slice HO296.out
                    (first | subst eo71 | (injection eo71 with f1_ f2_ f3_; have f4_ := f1_.symm; have f5_ := f3_.symm; clear f1_ f2_ f3_; subst f4_; subst f5_))
                    have p297 : 0 ≤ ((ji44) : Int) := of_decide_eq_true (by first | (with_reducible assumption) | assumption)
                    have q297 : (ji44) < (y294.length : Int) := of_decide_eq_true (by first | (with_reducible assumption) | assumption)
                    obtain ⟨ad297, e297, hx297_0⟩ := Kd.at_int (Kd.R_reads' HO296.out).2.2 (ji44) p297 q297
                    cases e297
                    replace p297 := eq_true p297
                    replace q297 := eq_true q297
                    have p298 : 0 ≤ ((ji47) : Int) := of_decide_eq_true (by first | (with_reducible assumption) | assumption)
                    have q298 : (ji47) < (y294.length : Int) := of_decide_eq_true (by first | (with_reducible assumption) | assumption)
                    obtain ⟨ad298, e298, hx298_0⟩ := Kd.at_int (Kd.R_reads' HO296.out).2.2 (ji47) p298 q298
                    obtain rfl : ad297 = ad298 := (by injection e298)
                    replace p298 := eq_true p298
                    replace q298 := eq_true q298
                    have p50 : 0 ≤ ((ji47) : Int) := of_decide_eq_true (by first | (with_reducible assumption) | assumption)
                    have q50 : ((ji47) : Int) < ((y294.length : Int) : Int) := of_decide_eq_true (by first | (with_reducible assumption) | assumption)
                    obtain ⟨go50, co50, eo50, gb50, gl50, cl50, HG50⟩ := Kd.R_form HO296.out (by omega)
                    (first | cases eo50 | (injection eo50 with ea_ en_ ec_; (first | subst ea_ | (injection ea_ with ea_; subst ea_)); subst ec_; clear en_))
                    have GB50 := Aside0.mk gb50
                    have GG50 := Aside0.mk HG50
                    clear gb50 gl50 HG50
                    (first | simp only [add_plain] at hx297_0 | skip)
                    (first | simp only [add_plain] at hx298_0 | skip)
                    obtain ⟨hx50_0, hf50_0⟩ := Kd.R_celln 0 HO296.out ((ji47) : Int) p50 q50
                    replace p50 := eq_true p50
                    replace q50 := eq_true q50
                    have HP72 := Kd.R_putn HO296.out ((ji47) : Int) (rd y294 (ji44))
                    rw [← Ny299.out] at HP72
                    have HQ72 := Aside0.mk HP72
                    clear HP72
                    have p51 : 0 ≤ ((ji44) : Int) := of_decide_eq_true (by first | (with_reducible assumption) | assumption)
                    have q51 : ((ji44) : Int) < ((y294.length : Int) : Int) := of_decide_eq_true (by first | (with_reducible assumption) | assumption)
                    obtain ⟨hx51_0, hf51_0⟩ := Kd.R_celln 0 HQ72.out ((ji44) : Int) p51 q51
                    replace p51 := eq_true p51
                    replace q51 := eq_true q51
                    have HP73 := Kd.R_putn HQ72.out ((ji44) : Int) (rd y294 (ji47))
                    rw [← Ny300.out] at HP73
                    have HQ73 := Aside0.mk HP73
                    clear HP73
                    refine start_ (n := 16) (S := fun w' => w'.cell? ⟨go50, ((ji44)).toNat, none⟩ = some (.int .i64 (rd y294 (ji44))) ∧ w'.cell? ⟨go50, ((ji47)).toNat, none⟩ = some (.int .i64 (rd y294 (ji47)))) (ds := [13, 15]) #[false, false, false, false, false, false, false, false, false, false, false, false, false, false, false, false] (by kernel_rfl) rfl rfl ⟨hx297_0, hx298_0⟩ (fun hHeld => ?_); refine with_tabW incipitlaw15_SuffixSorts.tab16 incipitlaw15_SuffixSorts.bits16 (fun HT_ HW_ => ?_)
                    generalize w69.drew = w70 at HO_9 HO_12 HO_13 HO296 HB GG50 HQ72 HQ73 hf50_0 hf51_0 hx297_0 hx298_0 hx50_0 hx51_0 hHeld ⊢
                    refine pure_ (i := 0) (N := some 132) (v := ?_) (a' := ?_) #[true, false, false, false, false, false, false, false, false, false, false, false, false, false, false, false] rfl rfl (any_of HT_.out (by kernel_rfl)) (fun _ _ _ h => h) (Or.inl ⟨by rfl, ?_⟩) ?_ ?_
                    rotate_left
                    ·intro w'
                     go_simp
                     with_reducible rfl
                    rotate_left
                    ·simp only [Act.put, List.setIfInBounds_toArray, List.set_cons_zero, List.set_cons_succ, i64_w, i32_w]
                     rfl
                    refine pure_ (i := 1) (N := some 133) (v := ?_) (a' := ?_) #[true, true, false, false, false, false, false, false, false, false, false, false, false, false, false, false] rfl rfl (any_of HT_.out (by kernel_rfl)) (fun _ _ _ h => h) (Or.inl ⟨by rfl, ?_⟩) ?_ ?_
                    rotate_left
                    ·intro w'
                     go_simp
                     with_reducible rfl
                    rotate_left
                    ·simp only [Act.put, List.setIfInBounds_toArray, List.set_cons_zero, List.set_cons_succ, i64_w, i32_w]
                     rfl
                    refine pure_ (i := 2) (N := some 134) (v := ?_) (a' := ?_) #[true, true, true, false, false, false, false, false, false, false, false, false, false, false, false, false] rfl rfl (any_of HT_.out (by kernel_rfl)) (fun _ _ _ h => h) (Or.inl ⟨by rfl, ?_⟩) ?_ ?_
                    rotate_left
                    ·intro w'
                     go_simp
                     with_reducible rfl
                    rotate_left
                    ·simp only [Act.put, List.setIfInBounds_toArray, List.set_cons_zero, List.set_cons_succ, i64_w, i32_w]
                     rfl
                    refine pure_ (i := 3) (N := some 135) (v := ?_) (a' := ?_) #[true, true, true, true, false, false, false, false, false, false, false, false, false, false, false, false] rfl rfl (any_of HT_.out (by kernel_rfl)) (fun _ _ _ h => h) (Or.inl ⟨by rfl, ?_⟩) ?_ ?_
                    rotate_left
                    ·intro w'
                     go_simp
                     with_reducible rfl
                    rotate_left
                    ·simp only [Act.put, List.setIfInBounds_toArray, List.set_cons_zero, List.set_cons_succ, i64_w, i32_w]
                     rfl
                    refine pure_ (i := 4) (N := some 136) (v := ?_) (a' := ?_) #[true, true, true, true, true, false, false, false, false, false, false, false, false, false, false, false] rfl rfl (any_of HT_.out (by kernel_rfl)) (fun _ _ _ h => h) (Or.inl ⟨by rfl, ?_⟩) ?_ ?_
                    rotate_left
                    ·intro w'
                     go_simp
                     with_reducible rfl
                    rotate_left
                    ·simp only [Act.put, List.setIfInBounds_toArray, List.set_cons_zero, List.set_cons_succ, i64_w, i32_w]
                     rfl
                    refine pure_ (i := 5) (N := some 137) (v := ?_) (a' := ?_) #[true, true, true, true, true, true, false, false, false, false, false, false, false, false, false, false] rfl rfl (any_of HT_.out (by kernel_rfl)) (fun _ _ _ h => h) (Or.inl ⟨by rfl, ?_⟩) ?_ ?_
                    rotate_left
                    ·intro w'
                     go_simp
                     with_reducible rfl
                    rotate_left
                    ·simp only [Act.put, List.setIfInBounds_toArray, List.set_cons_zero, List.set_cons_succ, i64_w, i32_w]
                     rfl
                    refine pure_ (i := 6) (N := some 138) (v := ?_) (a' := ?_) #[true, true, true, true, true, true, true, false, false, false, false, false, false, false, false, false] rfl rfl (any_of HT_.out (by kernel_rfl)) (fun _ _ _ h => h) (Or.inl ⟨by rfl, ?_⟩) ?_ ?_
                    rotate_left
                    ·intro w'
                     go_simp
                     with_reducible rfl
                    rotate_left
                    ·simp only [Act.put, List.setIfInBounds_toArray, List.set_cons_zero, List.set_cons_succ, i64_w, i32_w]
                     rfl
                    refine pure_ (i := 8) (N := some 140) (v := ?_) (a' := ?_) #[true, true, true, true, true, true, true, false, true, false, false, false, false, false, false, false] rfl rfl (any_of HT_.out (by kernel_rfl)) (fun _ _ _ h => h) (Or.inl ⟨by rfl, ?_⟩) ?_ ?_
                    rotate_left
                    ·intro w'
                     go_simp
                     with_reducible rfl
                    rotate_left
                    ·simp only [Act.put, List.setIfInBounds_toArray, List.set_cons_zero, List.set_cons_succ, i64_w, i32_w]
                     rfl
                    refine pure_ (i := 9) (N := some 141) (v := ?_) (a' := ?_) #[true, true, true, true, true, true, true, false, true, true, false, false, false, false, false, false] rfl rfl (any_of HT_.out (by kernel_rfl)) (fun _ _ _ h => h) (Or.inl ⟨by rfl, ?_⟩) ?_ ?_
                    rotate_left
                    ·intro w'
                     go_simp
                     with_reducible rfl
                    rotate_left
                    ·simp only [Act.put, List.setIfInBounds_toArray, List.set_cons_zero, List.set_cons_succ, i64_w, i32_w]
                     rfl
                    refine pure_ (i := 10) (N := some 142) (v := ?_) (a' := ?_) #[true, true, true, true, true, true, true, false, true, true, true, false, false, false, false, false] rfl rfl (any_of HT_.out (by kernel_rfl)) (fun _ _ _ h => h) (Or.inl ⟨by rfl, ?_⟩) ?_ ?_
                    rotate_left
                    ·intro w'
                     go_simp
                     with_reducible rfl
                    rotate_left
                    ·simp only [Act.put, List.setIfInBounds_toArray, List.set_cons_zero, List.set_cons_succ, i64_w, i32_w]
                     rfl
                    refine take_ (i := 7) (N := some 139) (v := ?_) (a' := ?_) #[true, true, true, true, true, true, true, true, true, true, true, false, false, false, false, false] rfl rfl (take_ofW HT_.out HW_.out (by kernel_rfl)) (fun _ _ _ h => h) (Or.inl ⟨by rfl, ?_⟩) hHeld ?_ ?_
                    rotate_left
                    ·rintro w' ⟨s0, s1⟩
                     go_simp
                     with_reducible rfl
                    rotate_left
                    ·simp only [Act.put, List.setIfInBounds_toArray, List.set_cons_zero, List.set_cons_succ, i64_w, i32_w]
                     rfl
                    refine take_ (i := 11) (N := some 143) (v := ?_) (a' := ?_) #[true, true, true, true, true, true, true, true, true, true, true, true, false, false, false, false] rfl rfl (take_ofW HT_.out HW_.out (by kernel_rfl)) (fun _ _ _ h => h) (Or.inl ⟨by rfl, ?_⟩) hHeld ?_ ?_
                    rotate_left
                    ·rintro w' ⟨s0, s1⟩
                     go_simp
                     with_reducible rfl
                    rotate_left
                    ·simp only [Act.put, List.setIfInBounds_toArray, List.set_cons_zero, List.set_cons_succ, i64_w, i32_w]
                     rfl
                    refine pure_ (i := 12) (N := some 144) (v := ?_) (a' := ?_) #[true, true, true, true, true, true, true, true, true, true, true, true, true, false, false, false] rfl rfl (any_of HT_.out (by kernel_rfl)) (fun _ _ _ h => h) (Or.inl ⟨by rfl, ?_⟩) ?_ ?_
                    rotate_left
                    ·intro w'
                     go_simp
                     with_reducible rfl
                    rotate_left
                    ·simp only [Act.put, List.setIfInBounds_toArray, List.set_cons_zero, List.set_cons_succ, i64_w, i32_w]
                     rfl
                    refine last_ (i := 13) (N := none) #[true, true, true, true, true, true, true, true, true, true, true, true, true, true, false, false] rfl rfl (one_of HT_.out (by kernel_rfl)) (by decide) (fun K hK => ?_)
                    refine skip_ (w1 := ?_) (by rfl) rfl ?_ ?_
                    rotate_left
                    ·go_simp
                     rfl
                    refine hK.out _ _ ?_
                    clear hK K
                    refine pure_ (i := 14) (N := some 145) (v := ?_) (a' := ?_) #[true, true, true, true, true, true, true, true, true, true, true, true, true, true, true, false] rfl rfl (any_of HT_.out (by kernel_rfl)) (fun _ _ _ h => h) (Or.inl ⟨by rfl, ?_⟩) ?_ ?_
                    rotate_left
                    ·intro w'
                     go_simp
                     with_reducible rfl
                    rotate_left
                    ·simp only [Act.put, List.setIfInBounds_toArray, List.set_cons_zero, List.set_cons_succ, i64_w, i32_w]
                     rfl
                    refine last_ (i := 15) (N := none) #[true, true, true, true, true, true, true, true, true, true, true, true, true, true, true, true] rfl rfl (one_of HT_.out (by kernel_rfl)) (by decide) (fun K hK => ?_)
                    refine skip_ (w1 := ?_) (by rfl) rfl ?_ ?_
                    rotate_left
                    ·go_simp
                     rfl
                    refine hK.out _ _ ?_
                    clear hK K
                    refine done_ (done_of HT_.out (by kernel_rfl)) ?_
                    try go_wp2_with (first | ((with_reducible refine gate_callee (f := 27) rfl ?_); refine goesL_ (some 149) rfl rfl Try.func27 (by kernel_rfl) rfl #[.slice Ao11 t265.length co11, .slice (some ⟨go50, 0, none⟩) y300.length co71] rfl (by (try simp only [List.map_toArray, List.map_cons, List.map_nil]); first | done | (rw [show y300.length = y294.length from (Kd.R_reads' HQ73.out).1.symm] <;> rfl) | rfl | (simp only [List.length_drop, List.length_take]; rfl)) ?_; (with_reducible refine (suffix_Commons.calls k2 _ _ t265 _ _ y300 t301 t302 _ ?side1 ?side2 ?side3 ?side4 A52.out).mono ?_); (case side1 => refine (Kd.R_reads' (e := 3) (base := w.heap.size) (ok := fun k_ => ((some k_ ≠ (.slice Ao14 t272.length co14 : Value).ownBlock ∧ some k_ ≠ (.slice Ao63 t275.length co63 : Value).ownBlock) ∧ some k_ ≠ (.slice (some ⟨go50, 0, none⟩) y294.length co71 : Value).ownBlock)) (n := t265.length) (c := co11) ?_).2.2; exact (by (with_reducible repeat (first | apply Kd.R_alloc | apply Kd.R_drewN | apply Kd.R_drew)); exact (Kd.R_mono (Kd.R_far (p := ⟨go50, ((ji44) : Int).toNat, none⟩) (Kd.R_far (p := ⟨go50, ((ji47) : Int).toNat, none⟩) (Kd.R_mono HO_9.out (fun k_ hk => (⟨hk, fun e_ => hk.2 (by rw [e_]; rfl)⟩ : _ ∧ k_ ≠ go50))) (fun _ hk => hk.2) (.int .i64 (rd y294 (ji44)))) (fun _ hk => hk.2) (.int .i64 (rd y294 (ji47)))) (fun _ h_ => h_.1)))); (case side2 => exact (Kd.R_reads' HO_9.out).2.1); (case side3 => refine (Kd.R_reads' (e := 3) (base := w.heap.size) (ok := fun k_ => (some k_ ≠ (.slice Ao11 t265.length co11 : Value).ownBlock ∧ (some k_ ≠ (.slice Ao14 t272.length co14 : Value).ownBlock ∧ some k_ ≠ (.slice Ao63 t275.length co63 : Value).ownBlock))) (n := y294.length) (c := co71) ?_).2.2; exact (by (with_reducible repeat (first | apply Kd.R_alloc | apply Kd.R_drewN | apply Kd.R_drew)); exact HQ73.out)); (case side4 => rw [show y300.length = y294.length from (Kd.R_reads' HQ73.out).1.symm]; exact (Kd.R_reads' HO296.out).2.1); rintro e w74 ⟨v303, rfl, ho0, hb⟩; refine ⟨_, rfl, ?_⟩; have n0_ := Aside0.mk (Kd.R_elder' (by (with_reducible repeat (first | apply Kd.R_alloc | apply Kd.R_drewN | apply Kd.R_drew)); exact (Kd.R_mono (Kd.R_far (p := ⟨go50, ((ji44) : Int).toNat, none⟩) (Kd.R_far (p := ⟨go50, ((ji47) : Int).toNat, none⟩) (Kd.R_mono HO_9.out (fun k_ hk => (⟨hk, fun e_ => hk.2 (by rw [e_]; rfl)⟩ : _ ∧ k_ ≠ go50))) (fun _ hk => hk.2) (.int .i64 (rd y294 (ji44)))) (fun _ hk => hk.2) (.int .i64 (rd y294 (ji47)))) (fun _ h_ => h_.1))) (Kd.R_base ho0) hb); have n1_ := Aside0.mk (Kd.R_elder' (by (with_reducible repeat (first | apply Kd.R_alloc | apply Kd.R_drewN | apply Kd.R_drew)); exact (Kd.R_mono (Kd.R_far (p := ⟨go50, ((ji44) : Int).toNat, none⟩) (Kd.R_far (p := ⟨go50, ((ji47) : Int).toNat, none⟩) (Kd.R_mono HO_12.out (fun k_ hk => (⟨hk, fun e_ => hk.2 (by rw [e_]; rfl)⟩ : _ ∧ k_ ≠ go50))) (fun _ hk => hk.2) (.int .i64 (rd y294 (ji44)))) (fun _ hk => hk.2) (.int .i64 (rd y294 (ji47)))) (fun _ h_ => h_.1))) (Kd.R_base ho0) hb); have n2_ := Aside0.mk (Kd.R_elder' (by (with_reducible repeat (first | apply Kd.R_alloc | apply Kd.R_drewN | apply Kd.R_drew)); exact (Kd.R_mono (Kd.R_far (p := ⟨go50, ((ji44) : Int).toNat, none⟩) (Kd.R_far (p := ⟨go50, ((ji47) : Int).toNat, none⟩) (Kd.R_mono HO_13.out (fun k_ hk => (⟨hk, fun e_ => hk.2 (by rw [e_]; rfl)⟩ : _ ∧ k_ ≠ go50))) (fun _ hk => hk.2) (.int .i64 (rd y294 (ji44)))) (fun _ hk => hk.2) (.int .i64 (rd y294 (ji47)))) (fun _ h_ => h_.1))) (Kd.R_base ho0) hb); have n3_ := Aside0.mk (Kd.R_elder' (by (with_reducible repeat (first | apply Kd.R_alloc | apply Kd.R_drewN | apply Kd.R_drew)); exact HQ73.out) (Kd.R_base ho0) hb); have n4_ := Aside0.mk (Kd.R_lower (Kd.R_new' (Kd.R_new' (Kd.R_new' (Kd.R_new' ho0 (Kd.R_lt (by (with_reducible repeat (first | apply Kd.R_alloc | apply Kd.R_drewN | apply Kd.R_drew)); exact (Kd.R_mono (Kd.R_far (p := ⟨go50, ((ji44) : Int).toNat, none⟩) (Kd.R_far (p := ⟨go50, ((ji47) : Int).toNat, none⟩) (Kd.R_mono HO_9.out (fun k_ hk => (⟨hk, fun e_ => hk.2 (by rw [e_]; rfl)⟩ : _ ∧ k_ ≠ go50))) (fun _ hk => hk.2) (.int .i64 (rd y294 (ji44)))) (fun _ hk => hk.2) (.int .i64 (rd y294 (ji47)))) (fun _ h_ => h_.1))))) (Kd.R_lt (by (with_reducible repeat (first | apply Kd.R_alloc | apply Kd.R_drewN | apply Kd.R_drew)); exact (Kd.R_mono (Kd.R_far (p := ⟨go50, ((ji44) : Int).toNat, none⟩) (Kd.R_far (p := ⟨go50, ((ji47) : Int).toNat, none⟩) (Kd.R_mono HO_12.out (fun k_ hk => (⟨hk, fun e_ => hk.2 (by rw [e_]; rfl)⟩ : _ ∧ k_ ≠ go50))) (fun _ hk => hk.2) (.int .i64 (rd y294 (ji44)))) (fun _ hk => hk.2) (.int .i64 (rd y294 (ji47)))) (fun _ h_ => h_.1))))) (Kd.R_lt (by (with_reducible repeat (first | apply Kd.R_alloc | apply Kd.R_drewN | apply Kd.R_drew)); exact (Kd.R_mono (Kd.R_far (p := ⟨go50, ((ji44) : Int).toNat, none⟩) (Kd.R_far (p := ⟨go50, ((ji47) : Int).toNat, none⟩) (Kd.R_mono HO_13.out (fun k_ hk => (⟨hk, fun e_ => hk.2 (by rw [e_]; rfl)⟩ : _ ∧ k_ ≠ go50))) (fun _ hk => hk.2) (.int .i64 (rd y294 (ji44)))) (fun _ hk => hk.2) (.int .i64 (rd y294 (ji47)))) (fun _ h_ => h_.1))))) (Kd.R_lt (by (with_reducible repeat (first | apply Kd.R_alloc | apply Kd.R_drewN | apply Kd.R_drew)); exact HQ73.out))) (below_size (by repeat (first | (with_reducible first | exact HB.out | apply below_alloc | apply pw_below_drewN | apply below_drew1 | refine below_set ?_ GB50.out | refine below_set ?_ GB50.out) | exact HB.out)))); have n5_ := Aside0.mk (below_step (by repeat (first | (with_reducible first | exact HB.out | apply below_alloc | apply pw_below_drewN | apply below_drew1 | refine below_set ?_ GB50.out | refine below_set ?_ GB50.out) | exact HB.out)) hb); clear HO_9; clear HO_12; clear HO_13; clear HO296; clear HB; have HO_9 := n0_; have HO_12 := n1_; have HO_13 := n2_; have HO296 := n3_; have HO304 := n4_; have HB := n5_; clear n0_ n1_ n2_ n3_ n4_ n5_; (try clear hb); (try clear hb2); (try clear hk); (try clear hi); (try clear ho0)) | ((with_reducible refine gate_callee (f := 16) rfl ?_); refine goesL_ (some 152) rfl rfl Try.func16 (by kernel_rfl) rfl #[] rfl (by (try simp only [List.map_toArray, List.map_cons, List.map_nil]); first | done | rfl | (simp only [List.length_drop, List.length_take]; rfl)) ?_; (with_reducible refine (incipitlaw15_known.calls k2  true _ A53.out).mono ?_); rintro e w75 ⟨rfl, hb⟩; refine ⟨_, rfl, ?_⟩; have n0_ := Aside0.mk (Kd.R_below (by (with_reducible repeat (first | apply Kd.R_alloc | apply Kd.R_drewN | apply Kd.R_drew)); exact HO_9.out) hb); have n1_ := Aside0.mk (Kd.R_below (by (with_reducible repeat (first | apply Kd.R_alloc | apply Kd.R_drewN | apply Kd.R_drew)); exact HO_12.out) hb); have n2_ := Aside0.mk (Kd.R_below (by (with_reducible repeat (first | apply Kd.R_alloc | apply Kd.R_drewN | apply Kd.R_drew)); exact HO_13.out) hb); have n3_ := Aside0.mk (Kd.R_below (by (with_reducible repeat (first | apply Kd.R_alloc | apply Kd.R_drewN | apply Kd.R_drew)); exact HO296.out) hb); have n4_ := Aside0.mk (Kd.R_below (by (with_reducible repeat (first | apply Kd.R_alloc | apply Kd.R_drewN | apply Kd.R_drew)); exact HO304.out) hb); have n5_ := Aside0.mk (below_step (by repeat (first | (with_reducible first | exact HB.out | apply below_alloc | apply pw_below_drewN | apply below_drew1) | exact HB.out)) hb); clear HO_9; clear HO_12; clear HO_13; clear HO296; clear HO304; clear HB; have HO_9 := n0_; have HO_12 := n1_; have HO_13 := n2_; have HO296 := n3_; have HO304 := n4_; have HB := n5_; clear n0_ n1_ n2_ n3_ n4_ n5_; (try clear hb); (try clear hb2); (try clear hk); (try clear hi)) | (go_at_call 31; (with_reducible refine (incipitref15_Less.calls k2 _ _ t265 ji47 ji44 t306 _ ?side1 ?side2 A56.out).mono ?_); (case side1 => repeat (first | exact (Kd.R_reads' HO_9.out).2.2 | (with_reducible refine Kd.C_alloc ?_ _) | (with_reducible refine Kd.C_drewN ?_ _) | (with_reducible refine Kd.C_drew ?_))); (case side2 => exact (Kd.R_reads' HO_9.out).2.1); rintro e w' ⟨rfl, ⟨nd, rfl⟩⟩) | (go_at_call 28; (with_reducible refine (incipitref15_Common.calls k2 _ _ t265 ji47 ji44 t307 _ ?side1 ?side2 A59.out).mono ?_); (case side1 => repeat (first | exact (Kd.R_reads' HO_9.out).2.2 | (with_reducible refine Kd.C_alloc ?_ _) | (with_reducible refine Kd.C_drewN ?_ _) | (with_reducible refine Kd.C_drew ?_))); (case side2 => exact (Kd.R_reads' HO_9.out).2.1); rintro e w' ⟨rfl, ⟨nd, rfl⟩⟩) | (go_at_call 19; refine calls_of_args (args' := #[.slice Ao11 t265.length co11, .slice (some ⟨go50, 0, none⟩) y300.length co71]) (by first | (rw [show y300.length = y294.length from (Kd.R_reads' HO296.out).1.symm] <;> rfl) | rfl) ?_; (with_reducible refine (suffix_Right.calls k2 _ _ t265 _ _ y300 t308 _ ?side1 ?side2 ?side3 ?side4 A61.out).mono ?_); (case side1 => repeat (first | exact (Kd.R_reads' HO_9.out).2.2 | (with_reducible refine Kd.C_alloc ?_ _) | (with_reducible refine Kd.C_drewN ?_ _) | (with_reducible refine Kd.C_drew ?_))); (case side2 => exact (Kd.R_reads' HO_9.out).2.1); (case side3 => repeat (first | exact (Kd.R_reads' HO296.out).2.2 | (with_reducible refine Kd.C_alloc ?_ _) | (with_reducible refine Kd.C_drewN ?_ _) | (with_reducible refine Kd.C_drew ?_))); (case side4 => rw [show y300.length = y294.length from (Kd.R_reads' HO296.out).1.symm]; exact (Kd.R_reads' HO296.out).2.1); rintro e w76 ⟨rfl, hb⟩; have n0_ := Aside0.mk (Kd.R_below (by (with_reducible repeat (first | apply Kd.R_alloc | apply Kd.R_drewN | apply Kd.R_drew)); exact HO_9.out) hb); have n1_ := Aside0.mk (Kd.R_below (by (with_reducible repeat (first | apply Kd.R_alloc | apply Kd.R_drewN | apply Kd.R_drew)); exact HO_12.out) hb); have n2_ := Aside0.mk (Kd.R_below (by (with_reducible repeat (first | apply Kd.R_alloc | apply Kd.R_drewN | apply Kd.R_drew)); exact HO_13.out) hb); have n3_ := Aside0.mk (Kd.R_below (by (with_reducible repeat (first | apply Kd.R_alloc | apply Kd.R_drewN | apply Kd.R_drew)); exact HO296.out) hb); have n4_ := Aside0.mk (Kd.R_below (by (with_reducible repeat (first | apply Kd.R_alloc | apply Kd.R_drewN | apply Kd.R_drew)); exact HO304.out) hb); have n5_ := Aside0.mk (below_step (by repeat (first | (with_reducible first | exact HB.out | apply below_alloc | apply pw_below_drewN | apply below_drew1) | exact HB.out)) hb); clear HO_9; clear HO_12; clear HO_13; clear HO296; clear HO304; clear HB; have HO_9 := n0_; have HO_12 := n1_; have HO_13 := n2_; have HO296 := n3_; have HO304 := n4_; have HB := n5_; clear n0_ n1_ n2_ n3_ n4_ n5_; (try clear hb); (try clear hb2); (try clear hk); (try clear hi)))
                    go_ret
                    exact ⟨by first | rfl | (simp [errW_none, errW_some] <;> rfl) | (simp only [← hji44, ← hji47]; first | rfl | (simp [errW_none, errW_some] <;> rfl)) | (simp [*, errW_none, errW_some] <;> rfl), by repeat (first | (with_reducible first | exact HB.out | apply below_alloc | apply pw_below_drewN | apply below_drew1) | exact HB.out)⟩
                  ·rw [if_neg c62] at H
                   have c62b0 : (t308 == ((ji47) == (ji44))) = false := by simpa using c62
                   (try (have c62b1 : decide (t308 = ((ji47) == (ji44))) = false := by simpa using c62))
                   (try (have c62b2 : (t308 == ((ji47) == (ji44))) = false := by simpa using c62))
                   (try (have c62b3 : ¬ (t308 = ((ji47) == (ji44))) := by simpa using c62))
                   clear c62
                   exact absurd (HR_.out ▸ H) (by simp)
                 ·rw [if_neg c60] at H
                  have c60b0 : (t289 == t307) = false := beq_eq_false_iff_ne.mpr c60
                  have c60b1 : (t289 != t307) = true := bne_iff_ne.mpr c60
                  exact absurd (HR_.out ▸ H) (by simp)
                ·rw [if_neg c58] at H
                 have c58b0 : (t290 == 0) = false := beq_eq_false_iff_ne.mpr c58
                 have c58b1 : (t290 != 0) = true := bne_iff_ne.mpr c58
                 exact absurd (HR_.out ▸ H) (by simp)
               ·rw [if_neg c57] at H
                have c57b0 : (t287 == t306) = false := by simpa using c57
                (try (have c57b1 : decide (t287 = t306) = false := by simpa using c57))
                (try (have c57b2 : (t287 == t306) = false := by simpa using c57))
                (try (have c57b3 : ¬ (t287 = t306) := by simpa using c57))
                clear c57
                exact absurd (HR_.out ▸ H) (by simp)
              ·rw [if_neg c55] at H
               have c55b0 : (t288 == 0) = false := beq_eq_false_iff_ne.mpr c55
               have c55b1 : (t288 != 0) = true := bne_iff_ne.mpr c55
               exact absurd (HR_.out ▸ H) (by simp)
             ·replace c54 := Bool.eq_false_iff.mpr c54
              subst c54
              have H1 : (some false) = some r := by rw [if_neg (show ¬ (false = true) by decide)] at H; exact H
              clear H
              have H := H1
              clear H1
              exact absurd (HR_.out ▸ H) (by simp)
            ·rw [if_neg c49] at H
             exact absurd H (by simp)
           ·rw [if_neg c48] at H
            exact absurd H (by simp)
          ·rw [if_neg c46] at H
           exact absurd H (by simp)
         ·rw [if_neg c45] at H
          exact absurd H (by simp)
        ·rw [if_neg c43] at H
         exact absurd H (by simp)

/-- THE ONE PURE STATEMENT of incipitlaw15_SuffixSorts: yours. -/
def incipitlaw15_SuffixSorts.Pure : Prop := ∀ (l0 : List Int) (a1 : Int) (a2 : Int) (a3 : Int), l0.length ≤ maxLen → l0.length * 8 ≤ 140737488351232 → (∀ x ∈ l0, (Lit.int .i64 x).wf = true) → (Lit.int .i64 a1).wf = true → (Lit.int .i64 a2).wf = true → (Lit.int .i64 a3).wf = true → ∃ k, incipitlaw15_SuffixSorts.f k l0 a1 a2 a3 = some true
theorem incipitlaw15_SuffixSorts.walk (P : incipitlaw15_SuffixSorts.Pure) (a0 : Option Addr) (len0 cap0 : Nat) (z0 : List Int) (a1 : Int) (a2 : Int) (a3 : Int) (w : World) (w0 : (a0 = none ∧ len0 = 0 ∧ cap0 = 0 ∧ z0 = []) ∨ ∃ x, a0 = some x ∧ len0 ≤ cap0 ∧ cap0 ≤ maxLen ∧ z0.length = cap0 ∧ (∀ i, i < z0.length → w.cell? (x.add i) = some (.int .i64 (z0.getD i 0))) ∧ ∀ n ∈ z0, (Lit.int .i64 n).wf = true) (y0 : len0 * 8 ≤ 140737488351232) (w1 : (Lit.int .i64 a1).wf = true) (w2 : (Lit.int .i64 a2).wf = true) (w3 : (Lit.int .i64 a3).wf = true) :
  Calls Try.prog 6 #[.slice a0 len0 cap0, .int .i64 a1, .int .i64 a2, .int .i64 a3] w fun e w' => e = .returned (.bool true) ∧ Below w.heap.size w w' := by
 obtain ⟨l0, rfl, hr0, hm0, hw0, hc0⟩ := ReadsInt.ofRowC w0
 obtain ⟨k, h⟩ := P l0 a1 a2 a3 hm0 y0 hw0 w1 w2 w3
 refine (incipitlaw15_SuffixSorts.calls k _ _ l0 a1 a2 a3 true w (Kd.C_of_reads (d := (0 : Int)) (h1 := fun _ => rfl) hr0) hc0 h rfl).mono ?_
 rintro e w' ⟨rfl, hd⟩
 exact ⟨rfl, hd⟩

end Go.Proofs.Ythkofhidhghmmaa.PSufS
