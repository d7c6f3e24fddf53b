-- Written by a program of this session (wip/tools/pp.sh, on the pattern of the kit's print): not typed by hand.
import Derived.Test.YthkofhidhghmmaaPSufCx0
import Derived.Test.YthkofhidhghmmaaPSufCx1
import Derived.Test.YthkofhidhghmmaaPSufCx3
import Derived.Test.YthkofhidhghmmaaPSufCx4
import Derived.Test.YthkofhidhghmmaaPSufCx5
import Derived.Test.YthkofhidhghmmaaPSufCx6
namespace Go.Proofs.Ythkofhidhghmmaa.PSufC
open Go.RowKit Go.Proofs.YthkofhidhghmmaaW.PrintWords Go.Proofs.YthkofhidhghmmaaW.PrintLast Go.Proofs.YthkofhidhghmmaaW.PrintMore
attribute [local go_sem] max2_int min2_int max_two min_two max_three min_three max_four min_four   -- for this text's walks alone
set_option linter.unusedVariables false
set_option linter.unusedSimpArgs false

/-! ### incipitlaw15_SuffixChecks: function 7 -/
def incipitlaw15_SuffixChecks.j0 : Nat → List Int → Int → Int → Int → Int → Int → Int → Bool → Option (Bool)
 | 0, _, _, _, _, _, _, _, _ => none
 | k + 1, x0, x1, x2, x7, x13, x17, x19, x81 => if x81 = true then (some false) else (if x7 = 0 then (if x1 ≥ 0 then (if x1 < (x0.length : Int) then (if x2 ≥ 0 then ((incipitlaw15_known.f k).bind fun t268 => (if t268 = true then (if ((x13 == 0) == (decide (x2 < (x0.length : Int)))) = true then (if ((x17 == 0) == (decide (x2 < (x0.length : Int)))) = true then (if x2 < (x0.length : Int) then (some true) else (if x13 = 10 then (if x17 = 10 then (some true) else (some false)) else (some false))) else (some false)) else (some false)) else (some false))) else ((incipitlaw15_known.f k).bind fun t269 => (if t269 = true then (if ((x13 == 0) == false) = true then (if ((x17 == 0) == false) = true then (if x13 = 10 then (if x17 = 10 then (some true) else (some false)) else (some false)) else (some false)) else (some false)) else (some false)))) else ((incipitlaw15_known.f k).bind fun t270 => (if t270 = true then (if ((x13 == 0) == false) = true then (if ((x17 == 0) == false) = true then (if x13 = 10 then (if x17 = 10 then (some (x19 == 10)) else (some false)) else (some false)) else (some false)) else (some false)) else (some false)))) else ((incipitlaw15_known.f k).bind fun t271 => (if t271 = true then (if ((x13 == 0) == false) = true then (if ((x17 == 0) == false) = true then (if x13 = 10 then (if x17 = 10 then (some (x19 == 10)) else (some false)) else (some false)) else (some false)) else (some false)) else (some false)))) else ((incipitlaw15_raw.f x0).bind fun t272 => ((suffix_Commons.f k x0 t272).bind fun bt275 => ((incipitlaw15_known.f k).bind fun t279 => (if t279 = true then (if x13 = x7 then (if x17 = x7 then (if x19 = x7 then (if bt275.2 = x7 then ((suffix_Right.f k x0 x0).bind fun t280 => (some (!t280))) else (some false)) else (some false)) else (some false)) else (some false)) else (some false))))))
def incipitlaw15_SuffixChecks.f (k : Nat) (l0 : List Int) (a1 : Int) (a2 : Int) : Option (Bool) := (incipitlaw15_raw.f l0).bind fun t243 => ((incipitref15_Check.f k t243).bind fun t246 => ((suffix_Kinds.f k t243).bind fun bt247 => ((suffix_Firsts.f k t243).bind fun bt251 => ((suffix_Less.f k t243 a1 a2).bind fun bt255 => ((suffix_Sort.f k t243).bind fun bt257 => ((suffix_Common.f k t243 a1 a2).bind fun bt261 => ((suffix_Piece.f k t243 a1).bind fun bt263 => ((suffix_Check.f k t243).bind fun t267 => (if t267 = t246 then (if bt247.2 = t246 then (if bt251.2 = t246 then (incipitlaw15_SuffixChecks.j0 k t243 a1 a2 t246 bt255.2 bt261.2 bt263.2 (bt257.2 != t246)) else (incipitlaw15_SuffixChecks.j0 k t243 a1 a2 t246 bt255.2 bt261.2 bt263.2 true)) else (incipitlaw15_SuffixChecks.j0 k t243 a1 a2 t246 bt255.2 bt261.2 bt263.2 true)) else (incipitlaw15_SuffixChecks.j0 k t243 a1 a2 t246 bt255.2 bt261.2 bt263.2 true))))))))))
theorem incipitlaw15_SuffixChecks.mono_l : ∀ k, (∀ y0 y1 y2 y3 y4 y5 y6 y7, LeO (incipitlaw15_SuffixChecks.j0 k y0 y1 y2 y3 y4 y5 y6 y7) (incipitlaw15_SuffixChecks.j0 (k + 1) y0 y1 y2 y3 y4 y5 y6 y7))
 | 0 => fun _ _ _ _ _ _ _ _ r h => by simp [incipitlaw15_SuffixChecks.j0] at h
 | k + 1 => by
  have ih0 := incipitlaw15_SuffixChecks.mono_l k
  ·intro y0 y1 y2 y3 y4 y5 y6 y7
   unfold incipitlaw15_SuffixChecks.j0
   repeat' first
   | (with_reducible exact ih0 _ _ _ _ _ _ _ _)
   | (with_reducible exact incipitlaw15_known.mono _)
   | (with_reducible exact incipitref15_Check.mono _ _)
   | (with_reducible exact suffix_Check.mono _ _)
   | (with_reducible exact suffix_Common.mono _ _ _ _)
   | (with_reducible exact suffix_Commons.mono _ _ _)
   | (with_reducible exact suffix_Firsts.mono _ _)
   | (with_reducible exact suffix_Kinds.mono _ _)
   | (with_reducible exact suffix_Less.mono _ _ _ _)
   | (with_reducible exact suffix_Piece.mono _ _ _)
   | (with_reducible exact suffix_Right.mono _ _ _)
   | (with_reducible exact suffix_Sort.mono _ _)
   | (with_reducible exact LeO.refl _)
   | (with_reducible exact LeO.none _)
   | (with_reducible refine LeO.ite ?_ ?_)
   | (with_reducible refine LeO.bind ?_ (fun _ => ?_))
   | exact ih0 _ _ _ _ _ _ _ _
   | exact incipitlaw15_known.mono _
   | exact incipitref15_Check.mono _ _
   | exact suffix_Check.mono _ _
   | exact suffix_Common.mono _ _ _ _
   | exact suffix_Commons.mono _ _ _
   | exact suffix_Firsts.mono _ _
   | exact suffix_Kinds.mono _ _
   | exact suffix_Less.mono _ _ _ _
   | exact suffix_Piece.mono _ _ _
   | exact suffix_Right.mono _ _ _
   | exact suffix_Sort.mono _ _
   | exact LeO.none _
   | refine LeO.ite ?_ ?_
   | refine LeO.bind ?_ (fun _ => ?_)
theorem incipitlaw15_SuffixChecks.mono : ∀ a0 a1 a2 k, LeO (incipitlaw15_SuffixChecks.f k a0 a1 a2) (incipitlaw15_SuffixChecks.f (k + 1) a0 a1 a2) := by
 intro a0 a1 a2 k
 have ih0 := incipitlaw15_SuffixChecks.mono_l k
 unfold incipitlaw15_SuffixChecks.f
 repeat' first
   | (with_reducible exact ih0 _ _ _ _ _ _ _ _)
   | (with_reducible exact incipitlaw15_known.mono _)
   | (with_reducible exact incipitref15_Check.mono _ _)
   | (with_reducible exact suffix_Check.mono _ _)
   | (with_reducible exact suffix_Common.mono _ _ _ _)
   | (with_reducible exact suffix_Commons.mono _ _ _)
   | (with_reducible exact suffix_Firsts.mono _ _)
   | (with_reducible exact suffix_Kinds.mono _ _)
   | (with_reducible exact suffix_Less.mono _ _ _ _)
   | (with_reducible exact suffix_Piece.mono _ _ _)
   | (with_reducible exact suffix_Right.mono _ _ _)
   | (with_reducible exact suffix_Sort.mono _ _)
   | (with_reducible exact LeO.refl _)
   | (with_reducible exact LeO.none _)
   | (with_reducible refine LeO.ite ?_ ?_)
   | (with_reducible refine LeO.bind ?_ (fun _ => ?_))
   | exact ih0 _ _ _ _ _ _ _ _
   | exact incipitlaw15_known.mono _
   | exact incipitref15_Check.mono _ _
   | exact suffix_Check.mono _ _
   | exact suffix_Common.mono _ _ _ _
   | exact suffix_Commons.mono _ _ _
   | exact suffix_Firsts.mono _ _
   | exact suffix_Kinds.mono _ _
   | exact suffix_Less.mono _ _ _ _
   | exact suffix_Piece.mono _ _ _
   | exact suffix_Right.mono _ _ _
   | exact suffix_Sort.mono _ _
   | exact LeO.none _
   | refine LeO.ite ?_ ?_
   | refine LeO.bind ?_ (fun _ => ?_)
set_option maxHeartbeats 8000000 in
set_option maxRecDepth 100000 in
theorem incipitlaw15_SuffixChecks.calls (k : Nat) (A0 : Option Addr) (c0 : Nat) (l0 : List Int) (a1 : Int) (a2 : Int) (r : Bool) (w : World) (hr0 : Kd.C (Kd.int .i64) w A0 l0.length l0) (hc0 : l0.length ≤ c0) (h : incipitlaw15_SuffixChecks.f k l0 a1 a2 = some r) (hr_ : r = true) :
  Calls Try.prog 7 #[.slice A0 l0.length c0, .int .i64 a1, .int .i64 a2] w fun e w' => e = .returned (.bool r) ∧ Below w.heap.size w w' := by
 have HR0 := Aside0.mk hr0
 have HC0 := Aside0.mk hc0
 clear hr0 hc0
 have HB := Aside0.mk (Below.refl w.heap.size w)
 have HR_ := Aside0.mk hr_
 clear hr_
 have H : ((incipitlaw15_raw.f l0).bind fun t243 => ((incipitref15_Check.f k t243).bind fun t246 => ((suffix_Kinds.f k t243).bind fun bt247 => ((suffix_Firsts.f k t243).bind fun bt251 => ((suffix_Less.f k t243 a1 a2).bind fun bt255 => ((suffix_Sort.f k t243).bind fun bt257 => ((suffix_Common.f k t243 a1 a2).bind fun bt261 => ((suffix_Piece.f k t243 a1).bind fun bt263 => ((suffix_Check.f k t243).bind fun t267 => (if t267 = t246 then (if bt247.2 = t246 then (if bt251.2 = t246 then (incipitlaw15_SuffixChecks.j0 k t243 a1 a2 t246 bt255.2 bt261.2 bt263.2 (bt257.2 != t246)) else (incipitlaw15_SuffixChecks.j0 k t243 a1 a2 t246 bt255.2 bt261.2 bt263.2 true)) else (incipitlaw15_SuffixChecks.j0 k t243 a1 a2 t246 bt255.2 bt261.2 bt263.2 true)) else (incipitlaw15_SuffixChecks.j0 k t243 a1 a2 t246 bt255.2 bt261.2 bt263.2 true))))))))))) = some r := h
 clear h
 replace H := Option.bind_eq_some_iff.mp H
 obtain ⟨t243, A40, H⟩ := H
 replace H : ((incipitref15_Check.f k t243).bind fun t246 => ((suffix_Kinds.f k t243).bind fun bt247 => ((suffix_Firsts.f k t243).bind fun bt251 => ((suffix_Less.f k t243 a1 a2).bind fun bt255 => ((suffix_Sort.f k t243).bind fun bt257 => ((suffix_Common.f k t243 a1 a2).bind fun bt261 => ((suffix_Piece.f k t243 a1).bind fun bt263 => ((suffix_Check.f k t243).bind fun t267 => (if t267 = t246 then (if bt247.2 = t246 then (if bt251.2 = t246 then (incipitlaw15_SuffixChecks.j0 k t243 a1 a2 t246 bt255.2 bt261.2 bt263.2 (bt257.2 != t246)) else (incipitlaw15_SuffixChecks.j0 k t243 a1 a2 t246 bt255.2 bt261.2 bt263.2 true)) else (incipitlaw15_SuffixChecks.j0 k t243 a1 a2 t246 bt255.2 bt261.2 bt263.2 true)) else (incipitlaw15_SuffixChecks.j0 k t243 a1 a2 t246 bt255.2 bt261.2 bt263.2 true)))))))))) = some r := H
 have A4 := Aside0.mk A40
 clear A40
 replace H := Option.bind_eq_some_iff.mp H
 obtain ⟨t246, A50, H⟩ := H
 replace H : ((suffix_Kinds.f k t243).bind fun bt247 => ((suffix_Firsts.f k t243).bind fun bt251 => ((suffix_Less.f k t243 a1 a2).bind fun bt255 => ((suffix_Sort.f k t243).bind fun bt257 => ((suffix_Common.f k t243 a1 a2).bind fun bt261 => ((suffix_Piece.f k t243 a1).bind fun bt263 => ((suffix_Check.f k t243).bind fun t267 => (if t267 = t246 then (if bt247.2 = t246 then (if bt251.2 = t246 then (incipitlaw15_SuffixChecks.j0 k t243 a1 a2 t246 bt255.2 bt261.2 bt263.2 (bt257.2 != t246)) else (incipitlaw15_SuffixChecks.j0 k t243 a1 a2 t246 bt255.2 bt261.2 bt263.2 true)) else (incipitlaw15_SuffixChecks.j0 k t243 a1 a2 t246 bt255.2 bt261.2 bt263.2 true)) else (incipitlaw15_SuffixChecks.j0 k t243 a1 a2 t246 bt255.2 bt261.2 bt263.2 true))))))))) = some r := H
 have A5 := Aside0.mk A50
 clear A50
 replace H := Option.bind_eq_some_iff.mp H
 obtain ⟨⟨t247, t248⟩, A60, H⟩ := H
 replace H : ((suffix_Firsts.f k t243).bind fun bt251 => ((suffix_Less.f k t243 a1 a2).bind fun bt255 => ((suffix_Sort.f k t243).bind fun bt257 => ((suffix_Common.f k t243 a1 a2).bind fun bt261 => ((suffix_Piece.f k t243 a1).bind fun bt263 => ((suffix_Check.f k t243).bind fun t267 => (if t267 = t246 then (if t248 = t246 then (if bt251.2 = t246 then (incipitlaw15_SuffixChecks.j0 k t243 a1 a2 t246 bt255.2 bt261.2 bt263.2 (bt257.2 != t246)) else (incipitlaw15_SuffixChecks.j0 k t243 a1 a2 t246 bt255.2 bt261.2 bt263.2 true)) else (incipitlaw15_SuffixChecks.j0 k t243 a1 a2 t246 bt255.2 bt261.2 bt263.2 true)) else (incipitlaw15_SuffixChecks.j0 k t243 a1 a2 t246 bt255.2 bt261.2 bt263.2 true)))))))) = some r := H
 have A6 := Aside0.mk A60
 clear A60
 replace H := Option.bind_eq_some_iff.mp H
 obtain ⟨⟨t251, t252⟩, A70, H⟩ := H
 replace H : ((suffix_Less.f k t243 a1 a2).bind fun bt255 => ((suffix_Sort.f k t243).bind fun bt257 => ((suffix_Common.f k t243 a1 a2).bind fun bt261 => ((suffix_Piece.f k t243 a1).bind fun bt263 => ((suffix_Check.f k t243).bind fun t267 => (if t267 = t246 then (if t248 = t246 then (if t252 = t246 then (incipitlaw15_SuffixChecks.j0 k t243 a1 a2 t246 bt255.2 bt261.2 bt263.2 (bt257.2 != t246)) else (incipitlaw15_SuffixChecks.j0 k t243 a1 a2 t246 bt255.2 bt261.2 bt263.2 true)) else (incipitlaw15_SuffixChecks.j0 k t243 a1 a2 t246 bt255.2 bt261.2 bt263.2 true)) else (incipitlaw15_SuffixChecks.j0 k t243 a1 a2 t246 bt255.2 bt261.2 bt263.2 true))))))) = some r := H
 have A7 := Aside0.mk A70
 clear A70
 replace H := Option.bind_eq_some_iff.mp H
 obtain ⟨⟨t255, t256⟩, A80, H⟩ := H
 replace H : ((suffix_Sort.f k t243).bind fun bt257 => ((suffix_Common.f k t243 a1 a2).bind fun bt261 => ((suffix_Piece.f k t243 a1).bind fun bt263 => ((suffix_Check.f k t243).bind fun t267 => (if t267 = t246 then (if t248 = t246 then (if t252 = t246 then (incipitlaw15_SuffixChecks.j0 k t243 a1 a2 t246 t256 bt261.2 bt263.2 (bt257.2 != t246)) else (incipitlaw15_SuffixChecks.j0 k t243 a1 a2 t246 t256 bt261.2 bt263.2 true)) else (incipitlaw15_SuffixChecks.j0 k t243 a1 a2 t246 t256 bt261.2 bt263.2 true)) else (incipitlaw15_SuffixChecks.j0 k t243 a1 a2 t246 t256 bt261.2 bt263.2 true)))))) = some r := H
 have A8 := Aside0.mk A80
 clear A80
 replace H := Option.bind_eq_some_iff.mp H
 obtain ⟨⟨t257, t258⟩, A90, H⟩ := H
 replace H : ((suffix_Common.f k t243 a1 a2).bind fun bt261 => ((suffix_Piece.f k t243 a1).bind fun bt263 => ((suffix_Check.f k t243).bind fun t267 => (if t267 = t246 then (if t248 = t246 then (if t252 = t246 then (incipitlaw15_SuffixChecks.j0 k t243 a1 a2 t246 t256 bt261.2 bt263.2 (t258 != t246)) else (incipitlaw15_SuffixChecks.j0 k t243 a1 a2 t246 t256 bt261.2 bt263.2 true)) else (incipitlaw15_SuffixChecks.j0 k t243 a1 a2 t246 t256 bt261.2 bt263.2 true)) else (incipitlaw15_SuffixChecks.j0 k t243 a1 a2 t246 t256 bt261.2 bt263.2 true))))) = some r := H
 have A9 := Aside0.mk A90
 clear A90
 replace H := Option.bind_eq_some_iff.mp H
 obtain ⟨⟨t261, t262⟩, A100, H⟩ := H
 replace H : ((suffix_Piece.f k t243 a1).bind fun bt263 => ((suffix_Check.f k t243).bind fun t267 => (if t267 = t246 then (if t248 = t246 then (if t252 = t246 then (incipitlaw15_SuffixChecks.j0 k t243 a1 a2 t246 t256 t262 bt263.2 (t258 != t246)) else (incipitlaw15_SuffixChecks.j0 k t243 a1 a2 t246 t256 t262 bt263.2 true)) else (incipitlaw15_SuffixChecks.j0 k t243 a1 a2 t246 t256 t262 bt263.2 true)) else (incipitlaw15_SuffixChecks.j0 k t243 a1 a2 t246 t256 t262 bt263.2 true)))) = some r := H
 have A10 := Aside0.mk A100
 clear A100
 replace H := Option.bind_eq_some_iff.mp H
 obtain ⟨⟨t263, t264⟩, A110, H⟩ := H
 replace H : ((suffix_Check.f k t243).bind fun t267 => (if t267 = t246 then (if t248 = t246 then (if t252 = t246 then (incipitlaw15_SuffixChecks.j0 k t243 a1 a2 t246 t256 t262 t264 (t258 != t246)) else (incipitlaw15_SuffixChecks.j0 k t243 a1 a2 t246 t256 t262 t264 true)) else (incipitlaw15_SuffixChecks.j0 k t243 a1 a2 t246 t256 t262 t264 true)) else (incipitlaw15_SuffixChecks.j0 k t243 a1 a2 t246 t256 t262 t264 true))) = some r := H
 have A11 := Aside0.mk A110
 clear A110
 have HC12 := Aside0.mk H
 clear H
 go_enter Try.func7, Try.ntmps7
 go_upto_region 9 with (first | ((with_reducible refine gate_callee (f := 13) rfl ?_); refine goesL_ (some 25) rfl rfl Try.func13 (by kernel_rfl) rfl #[.slice A0 l0.length c0] rfl (by (try simp only [List.map_toArray, List.map_cons, List.map_nil]); first | done | rfl | (simp only [List.length_drop, List.length_take]; rfl)) ?_; (with_reducible refine (incipitlaw15_raw.calls (fun k_ => k_ < w.heap.size) _ _ l0 t243 _ ?side1 A4.out).mono ?_); (case side1 => exact Kd.V_mk HC0.out (Kd.F_below (Kd.C_F (Kd.heap_int .i64) HR0.out) (by repeat (first | (with_reducible first | exact HB.out | apply below_alloc | apply pw_below_drewN | apply below_drew1) | exact HB.out)))); rintro e w13 ⟨v244, rfl, ho0, hb⟩; refine ⟨_, rfl, ?_⟩; have n0_ := Aside0.mk (Kd.V_lower (Kd.V_mono (ok' := fun k_ => True) ho0 (fun k_ hk_ => trivial)) (below_size (by repeat (first | (with_reducible first | exact HB.out | apply below_alloc | apply pw_below_drewN | apply below_drew1) | exact HB.out)))); have n1_ := Aside0.mk (below_step (by repeat (first | (with_reducible first | exact HB.out | apply below_alloc | apply pw_below_drewN | apply below_drew1) | exact HB.out)) hb); clear HB; have HO245 := n0_; have HB := n1_; clear n0_ n1_; (try clear hb); (try clear hb2); (try clear hk); (try clear hi); (try clear ho0); obtain ⟨Ao14, co14, eo14⟩ := Kd.V_slice HO245.out; subst eo14) | ((with_reducible refine gate_callee (f := 32) rfl ?_); refine goesL_ (some 27) rfl rfl Try.func32 (by kernel_rfl) rfl #[.slice Ao14 t243.length co14] rfl (by (try simp only [List.map_toArray, List.map_cons, List.map_nil]); first | done | rfl | (simp only [List.length_drop, List.length_take]; rfl)) ?_; (with_reducible refine (incipitref15_Check.calls k _ _ t243 t246 _ ?side1 ?side2 A5.out).mono ?_); (case side1 => repeat (first | exact (Kd.V_reads' HO245.out).2.2 | (with_reducible refine Kd.C_alloc ?_ _) | (with_reducible refine Kd.C_drewN ?_ _) | (with_reducible refine Kd.C_drew ?_))); (case side2 => exact (Kd.V_reads' HO245.out).2.1); rintro e w' ⟨rfl, ⟨nd, rfl⟩⟩; refine ⟨_, rfl, ?_⟩) | ((with_reducible refine gate_callee (f := 21) rfl ?_); refine goesL_ (some 30) rfl rfl Try.func21 (by kernel_rfl) rfl #[.slice Ao14 t243.length co14] rfl (by (try simp only [List.map_toArray, List.map_cons, List.map_nil]); first | done | rfl | (simp only [List.length_drop, List.length_take]; rfl)) ?_; (with_reducible refine (suffix_Kinds.calls k _ _ t243 t247 t248 _ ?side1 ?side2 A6.out).mono ?_); (case side1 => repeat (first | exact (Kd.V_reads' HO245.out).2.2 | (with_reducible refine Kd.C_alloc ?_ _) | (with_reducible refine Kd.C_drewN ?_ _) | (with_reducible refine Kd.C_drew ?_))); (case side2 => exact (Kd.V_reads' HO245.out).2.1); rintro e w15 ⟨v249, rfl, ho0, hb⟩; refine ⟨_, rfl, ?_⟩; have n0_ := Aside0.mk (Kd.V_elder' (by (with_reducible repeat (first | apply Kd.V_alloc | apply Kd.V_drewN | apply Kd.V_drew)); exact HO245.out) (Kd.R_base ho0) hb); have n1_ := Aside0.mk (Kd.R_lower ho0 (below_size (by repeat (first | (with_reducible first | exact HB.out | apply below_alloc | apply pw_below_drewN | apply below_drew1) | exact HB.out)))); have n2_ := Aside0.mk (below_step (by repeat (first | (with_reducible first | exact HB.out | apply below_alloc | apply pw_below_drewN | apply below_drew1) | exact HB.out)) hb); clear HO245; clear HB; have HO245 := n0_; have HO250 := n1_; have HB := n2_; clear n0_ n1_ n2_; (try clear hb); (try clear hb2); (try clear hk); (try clear hi); (try clear ho0)) | ((with_reducible refine gate_callee (f := 23) rfl ?_); refine goesL_ (some 35) rfl rfl Try.func23 (by kernel_rfl) rfl #[.slice Ao14 t243.length co14] rfl (by (try simp only [List.map_toArray, List.map_cons, List.map_nil]); first | done | rfl | (simp only [List.length_drop, List.length_take]; rfl)) ?_; (with_reducible refine (suffix_Firsts.calls k _ _ t243 t251 t252 _ ?side1 ?side2 A7.out).mono ?_); (case side1 => repeat (first | exact (Kd.V_reads' HO245.out).2.2 | (with_reducible refine Kd.C_alloc ?_ _) | (with_reducible refine Kd.C_drewN ?_ _) | (with_reducible refine Kd.C_drew ?_))); (case side2 => exact (Kd.V_reads' HO245.out).2.1); rintro e w16 ⟨v253, rfl, ho0, hb⟩; refine ⟨_, rfl, ?_⟩; have n0_ := Aside0.mk (Kd.V_elder' (by (with_reducible repeat (first | apply Kd.V_alloc | apply Kd.V_drewN | apply Kd.V_drew)); exact HO245.out) (Kd.R_base ho0) hb); have n1_ := Aside0.mk (Kd.R_below (by (with_reducible repeat (first | apply Kd.R_alloc | apply Kd.R_drewN | apply Kd.R_drew)); exact HO250.out) hb); have n2_ := Aside0.mk (Kd.R_lower ho0 (below_size (by repeat (first | (with_reducible first | exact HB.out | apply below_alloc | apply pw_below_drewN | apply below_drew1) | exact HB.out)))); have n3_ := Aside0.mk (below_step (by repeat (first | (with_reducible first | exact HB.out | apply below_alloc | apply pw_below_drewN | apply below_drew1) | exact HB.out)) hb); clear HO245; clear HO250; clear HB; have HO245 := n0_; have HO250 := n1_; have HO254 := n2_; have HB := n3_; clear n0_ n1_ n2_ n3_; (try clear hb); (try clear hb2); (try clear hk); (try clear hi); (try clear ho0)) | ((with_reducible refine gate_callee (f := 29) rfl ?_); refine goesL_ (some 42) rfl rfl Try.func29 (by kernel_rfl) rfl #[.slice Ao14 t243.length co14, .int .i64 a1, .int .i64 a2] rfl (by (try simp only [List.map_toArray, List.map_cons, List.map_nil]); first | done | rfl | (simp only [List.length_drop, List.length_take]; rfl)) ?_; (with_reducible refine (suffix_Less.calls k _ _ t243 a1 a2 t255 t256 _ ?side1 ?side2 A8.out).mono ?_); (case side1 => repeat (first | exact (Kd.V_reads' HO245.out).2.2 | (with_reducible refine Kd.C_alloc ?_ _) | (with_reducible refine Kd.C_drewN ?_ _) | (with_reducible refine Kd.C_drew ?_))); (case side2 => exact (Kd.V_reads' HO245.out).2.1); rintro e w17 ⟨rfl, hb⟩; refine ⟨_, rfl, ?_⟩; have n0_ := Aside0.mk (Kd.V_below (by (with_reducible repeat (first | apply Kd.V_alloc | apply Kd.V_drewN | apply Kd.V_drew)); exact HO245.out) hb); have n1_ := Aside0.mk (Kd.R_below (by (with_reducible repeat (first | apply Kd.R_alloc | apply Kd.R_drewN | apply Kd.R_drew)); exact HO250.out) hb); have n2_ := Aside0.mk (Kd.R_below (by (with_reducible repeat (first | apply Kd.R_alloc | apply Kd.R_drewN | apply Kd.R_drew)); exact HO254.out) hb); have n3_ := Aside0.mk (below_step (by repeat (first | (with_reducible first | exact HB.out | apply below_alloc | apply pw_below_drewN | apply below_drew1) | exact HB.out)) hb); clear HO245; clear HO250; clear HO254; clear HB; have HO245 := n0_; have HO250 := n1_; have HO254 := n2_; have HB := n3_; clear n0_ n1_ n2_ n3_; (try clear hb); (try clear hb2); (try clear hk); (try clear hi)) | ((with_reducible refine gate_callee (f := 18) rfl ?_); refine goesL_ (some 47) rfl rfl Try.func18 (by kernel_rfl) rfl #[.slice Ao14 t243.length co14] rfl (by (try simp only [List.map_toArray, List.map_cons, List.map_nil]); first | done | rfl | (simp only [List.length_drop, List.length_take]; rfl)) ?_; (with_reducible refine (suffix_Sort.calls k _ _ t243 t257 t258 _ ?side1 ?side2 A9.out).mono ?_); (case side1 => repeat (first | exact (Kd.V_reads' HO245.out).2.2 | (with_reducible refine Kd.C_alloc ?_ _) | (with_reducible refine Kd.C_drewN ?_ _) | (with_reducible refine Kd.C_drew ?_))); (case side2 => exact (Kd.V_reads' HO245.out).2.1); rintro e w18 ⟨v259, rfl, ho0, hb⟩; refine ⟨_, rfl, ?_⟩; have n0_ := Aside0.mk (Kd.V_elder' (by (with_reducible repeat (first | apply Kd.V_alloc | apply Kd.V_drewN | apply Kd.V_drew)); exact HO245.out) (Kd.R_base ho0) hb); have n1_ := Aside0.mk (Kd.R_below (by (with_reducible repeat (first | apply Kd.R_alloc | apply Kd.R_drewN | apply Kd.R_drew)); exact HO250.out) hb); have n2_ := Aside0.mk (Kd.R_elder' (by (with_reducible repeat (first | apply Kd.R_alloc | apply Kd.R_drewN | apply Kd.R_drew)); exact HO254.out) (Kd.R_base ho0) hb); have n3_ := Aside0.mk (Kd.R_lower (Kd.R_new' ho0 (Kd.R_lt (by (with_reducible repeat (first | apply Kd.R_alloc | apply Kd.R_drewN | apply Kd.R_drew)); exact HO254.out))) (below_size (by repeat (first | (with_reducible first | exact HB.out | apply below_alloc | apply pw_below_drewN | apply below_drew1) | exact HB.out)))); have n4_ := Aside0.mk (below_step (by repeat (first | (with_reducible first | exact HB.out | apply below_alloc | apply pw_below_drewN | apply below_drew1) | exact HB.out)) hb); clear HO245; clear HO250; clear HO254; clear HB; have HO245 := n0_; have HO250 := n1_; have HO254 := n2_; have HO260 := n3_; have HB := n4_; clear n0_ n1_ n2_ n3_ n4_; (try clear hb); (try clear hb2); (try clear hk); (try clear hi); (try clear ho0)) | ((with_reducible refine gate_callee (f := 30) rfl ?_); refine goesL_ (some 54) rfl rfl Try.func30 (by kernel_rfl) rfl #[.slice Ao14 t243.length co14, .int .i64 a1, .int .i64 a2] rfl (by (try simp only [List.map_toArray, List.map_cons, List.map_nil]); first | done | rfl | (simp only [List.length_drop, List.length_take]; rfl)) ?_; (with_reducible refine (suffix_Common.calls k _ _ t243 a1 a2 t261 t262 _ ?side1 ?side2 A10.out).mono ?_); (case side1 => repeat (first | exact (Kd.V_reads' HO245.out).2.2 | (with_reducible refine Kd.C_alloc ?_ _) | (with_reducible refine Kd.C_drewN ?_ _) | (with_reducible refine Kd.C_drew ?_))); (case side2 => exact (Kd.V_reads' HO245.out).2.1); rintro e w19 ⟨rfl, hb⟩; refine ⟨_, rfl, ?_⟩; have n0_ := Aside0.mk (Kd.V_below (by (with_reducible repeat (first | apply Kd.V_alloc | apply Kd.V_drewN | apply Kd.V_drew)); exact HO245.out) hb); have n1_ := Aside0.mk (Kd.R_below (by (with_reducible repeat (first | apply Kd.R_alloc | apply Kd.R_drewN | apply Kd.R_drew)); exact HO250.out) hb); have n2_ := Aside0.mk (Kd.R_below (by (with_reducible repeat (first | apply Kd.R_alloc | apply Kd.R_drewN | apply Kd.R_drew)); exact HO254.out) hb); have n3_ := Aside0.mk (Kd.R_below (by (with_reducible repeat (first | apply Kd.R_alloc | apply Kd.R_drewN | apply Kd.R_drew)); exact HO260.out) hb); have n4_ := Aside0.mk (below_step (by repeat (first | (with_reducible first | exact HB.out | apply below_alloc | apply pw_below_drewN | apply below_drew1) | exact HB.out)) hb); clear HO245; clear HO250; clear HO254; clear HO260; clear HB; have HO245 := n0_; have HO250 := n1_; have HO254 := n2_; have HO260 := n3_; have HB := n4_; clear n0_ n1_ n2_ n3_ n4_; (try clear hb); (try clear hb2); (try clear hk); (try clear hi)) | ((with_reducible refine gate_callee (f := 25) rfl ?_); refine goesL_ (some 60) rfl rfl Try.func25 (by kernel_rfl) rfl #[.slice Ao14 t243.length co14, .int .i64 a1] rfl (by (try simp only [List.map_toArray, List.map_cons, List.map_nil]); first | done | rfl | (simp only [List.length_drop, List.length_take]; rfl)) ?_; (with_reducible refine (suffix_Piece.calls k _ _ t243 a1 t263 t264 _ ?side1 ?side2 A11.out).mono ?_); (case side1 => repeat (first | exact (Kd.V_reads' HO245.out).2.2 | (with_reducible refine Kd.C_alloc ?_ _) | (with_reducible refine Kd.C_drewN ?_ _) | (with_reducible refine Kd.C_drew ?_))); (case side2 => exact (Kd.V_reads' HO245.out).2.1); rintro e w20 ⟨v265, rfl, ho0, hb⟩; refine ⟨_, rfl, ?_⟩; have n0_ := Aside0.mk (Kd.V_elder' (by (with_reducible repeat (first | apply Kd.V_alloc | apply Kd.V_drewN | apply Kd.V_drew)); exact HO245.out) (Kd.R_base ho0) hb); have n1_ := Aside0.mk (Kd.R_below (by (with_reducible repeat (first | apply Kd.R_alloc | apply Kd.R_drewN | apply Kd.R_drew)); exact HO250.out) hb); have n2_ := Aside0.mk (Kd.R_elder' (by (with_reducible repeat (first | apply Kd.R_alloc | apply Kd.R_drewN | apply Kd.R_drew)); exact HO254.out) (Kd.R_base ho0) hb); have n3_ := Aside0.mk (Kd.R_elder' (by (with_reducible repeat (first | apply Kd.R_alloc | apply Kd.R_drewN | apply Kd.R_drew)); exact HO260.out) (Kd.R_base ho0) hb); have n4_ := Aside0.mk (Kd.R_lower (Kd.R_new' (Kd.R_new' ho0 (Kd.R_lt (by (with_reducible repeat (first | apply Kd.R_alloc | apply Kd.R_drewN | apply Kd.R_drew)); exact HO254.out))) (Kd.R_lt (by (with_reducible repeat (first | apply Kd.R_alloc | apply Kd.R_drewN | apply Kd.R_drew)); exact HO260.out))) (below_size (by repeat (first | (with_reducible first | exact HB.out | apply below_alloc | apply pw_below_drewN | apply below_drew1) | exact HB.out)))); have n5_ := Aside0.mk (below_step (by repeat (first | (with_reducible first | exact HB.out | apply below_alloc | apply pw_below_drewN | apply below_drew1) | exact HB.out)) hb); clear HO245; clear HO250; clear HO254; clear HO260; clear HB; have HO245 := n0_; have HO250 := n1_; have HO254 := n2_; have HO260 := n3_; have HO266 := n4_; have HB := n5_; clear n0_ n1_ n2_ n3_ n4_ n5_; (try clear hb); (try clear hb2); (try clear hk); (try clear hi); (try clear ho0)))
 (try simp only [Act.put, List.setIfInBounds_toArray, List.set_cons_zero, List.set_cons_succ])
 go_cut [81] (fun v81 wc => ∃ (kq : Nat) (x81_11 : Bool), v81 = .bool x81_11 ∧ Aside0 (incipitlaw15_SuffixChecks.j0 kq t243 a1 a2 t246 t256 t262 t264 x81_11 = some r) ∧ Aside0 (kq ≤ k) ∧ Aside0 (Kd.V (Kd.int .i64) 3 wc w.heap.size (fun _ => True) (.slice Ao14 t243.length co14) t243) ∧ Aside0 (Below w.heap.size w wc))
 case first =>
  have H := HC12.out
  clear HC12
  replace H := Option.bind_eq_some_iff.mp H
  obtain ⟨t267, A210, H⟩ := H
  replace H : (if t267 = t246 then (if t248 = t246 then (if t252 = t246 then (incipitlaw15_SuffixChecks.j0 k t243 a1 a2 t246 t256 t262 t264 (t258 != t246)) else (incipitlaw15_SuffixChecks.j0 k t243 a1 a2 t246 t256 t262 t264 true)) else (incipitlaw15_SuffixChecks.j0 k t243 a1 a2 t246 t256 t262 t264 true)) else (incipitlaw15_SuffixChecks.j0 k t243 a1 a2 t246 t256 t262 t264 true)) = some r := H
  have A21 := Aside0.mk A210
  clear A210
  by_cases c22 : t267 = t246
  ·rw [if_pos c22] at H
   have c22b0 : (t267 == t246) = true := beq_iff_eq.mpr c22
   have c22b1 : (t267 != t246) = false := bne_eq_false_iff_eq.mpr c22
   clear c22
   (first | rw [c22b0] | (simp only [i64_w, i32_w]; rw [c22b0]) | skip)
   by_cases c23 : t248 = t246
   ·rw [if_pos c23] at H
    have c23b0 : (t248 == t246) = true := beq_iff_eq.mpr c23
    have c23b1 : (t248 != t246) = false := bne_eq_false_iff_eq.mpr c23
    clear c23
    by_cases c24 : t252 = t246
    ·rw [if_pos c24] at H
     have c24b0 : (t252 == t246) = true := beq_iff_eq.mpr c24
     have c24b1 : (t252 != t246) = false := bne_eq_false_iff_eq.mpr c24
     clear c24
     have H' := Aside0.mk H
     clear H
     go_wp2_with (first | ((with_reducible refine gate_callee (f := 33) rfl ?_); refine goesL_ (some 64) rfl rfl Try.func33 (by kernel_rfl) rfl #[.slice Ao14 t243.length co14] rfl (by (try simp only [List.map_toArray, List.map_cons, List.map_nil]); first | done | rfl | (simp only [List.length_drop, List.length_take]; rfl)) ?_; (with_reducible refine (suffix_Check.calls k _ _ t243 t267 _ ?side1 ?side2 A21.out).mono ?_); (case side1 => repeat (first | exact (Kd.V_reads' HO245.out).2.2 | (with_reducible refine Kd.C_alloc ?_ _) | (with_reducible refine Kd.C_drewN ?_ _) | (with_reducible refine Kd.C_drew ?_))); (case side2 => exact (Kd.V_reads' HO245.out).2.1); rintro e w' ⟨rfl, ⟨nd, rfl⟩⟩; refine ⟨_, rfl, ?_⟩))
     go_meet
     case rel => exact ⟨_, ((t258 != t246)), (by first | rfl | (simp; done) | (simp [*]; done)), H', ⟨by first | omega | exact Nat.le_refl _⟩, ⟨by (with_reducible repeat (first | apply Kd.V_alloc | apply Kd.V_drewN | apply Kd.V_drew)); exact Kd.V_mono HO245.out (fun _ hk => trivial)⟩, ⟨by repeat (first | (with_reducible first | exact HB.out | apply below_alloc | apply pw_below_drewN | apply below_drew1) | exact HB.out)⟩⟩
    ·rw [if_neg c24] at H
     have c24b0 : (t252 == t246) = false := beq_eq_false_iff_ne.mpr c24
     have c24b1 : (t252 != t246) = true := bne_iff_ne.mpr c24
     exact absurd (HR_.out ▸ H) (by generalize k = k_; cases k_ <;> simp [incipitlaw15_SuffixChecks.j0])
   ·rw [if_neg c23] at H
    have c23b0 : (t248 == t246) = false := beq_eq_false_iff_ne.mpr c23
    have c23b1 : (t248 != t246) = true := bne_iff_ne.mpr c23
    exact absurd (HR_.out ▸ H) (by generalize k = k_; cases k_ <;> simp [incipitlaw15_SuffixChecks.j0])
  ·rw [if_neg c22] at H
   have c22b0 : (t267 == t246) = false := beq_eq_false_iff_ne.mpr c22
   have c22b1 : (t267 != t246) = true := bne_iff_ne.mpr c22
   (first | rw [c22b0] | (simp only [i64_w, i32_w]; rw [c22b0]) | skip)
   exact absurd (HR_.out ▸ H) (by generalize k = k_; cases k_ <;> simp [incipitlaw15_SuffixChecks.j0])
 case rest =>
  clear HC12
  try clear c1
  try clear c2
  try clear p2
  try clear c3
  try clear c7
  try clear c13
  try clear c18
  try clear c21
  try clear c22
  try clear c22b0
  try clear c22b1
  try clear c23
  try clear c23b0
  try clear c23b1
  try clear c24
  try clear c24b0
  try clear c24b1
  obtain ⟨kq, x81_11, rfl, HA, HJ11, HO_0, HB⟩ := hcut
  cases kq with
  | zero => exact absurd HA.out (by simp [incipitlaw15_SuffixChecks.j0])
  | succ kj11 =>
   have H := HA.out
   clear HA
   simp only [incipitlaw15_SuffixChecks.j0] at H
   by_cases c25 : x81_11 = true
   ·subst c25
    have H1 : (some false) = some r := by rw [if_pos rfl] at H; exact H
    clear H
    have H := H1
    clear H1
    exact absurd (HR_.out ▸ H) (by simp)
   ·replace c25 := Bool.eq_false_iff.mpr c25
    subst c25
    have H1 : (if t246 = 0 then (if a1 ≥ 0 then (if a1 < (t243.length : Int) then (if a2 ≥ 0 then ((incipitlaw15_known.f kj11).bind fun t268 => (if t268 = true then (if ((t256 == 0) == (decide (a2 < (t243.length : Int)))) = true then (if ((t262 == 0) == (decide (a2 < (t243.length : Int)))) = true then (if a2 < (t243.length : Int) then (some true) else (if t256 = 10 then (if t262 = 10 then (some true) else (some false)) else (some false))) else (some false)) else (some false)) else (some false))) else ((incipitlaw15_known.f kj11).bind fun t269 => (if t269 = true then (if ((t256 == 0) == false) = true then (if ((t262 == 0) == false) = true then (if t256 = 10 then (if t262 = 10 then (some true) else (some false)) else (some false)) else (some false)) else (some false)) else (some false)))) else ((incipitlaw15_known.f kj11).bind fun t270 => (if t270 = true then (if ((t256 == 0) == false) = true then (if ((t262 == 0) == false) = true then (if t256 = 10 then (if t262 = 10 then (some (t264 == 10)) else (some false)) else (some false)) else (some false)) else (some false)) else (some false)))) else ((incipitlaw15_known.f kj11).bind fun t271 => (if t271 = true then (if ((t256 == 0) == false) = true then (if ((t262 == 0) == false) = true then (if t256 = 10 then (if t262 = 10 then (some (t264 == 10)) else (some false)) else (some false)) else (some false)) else (some false)) else (some false)))) else ((incipitlaw15_raw.f t243).bind fun t272 => ((suffix_Commons.f kj11 t243 t272).bind fun bt275 => ((incipitlaw15_known.f kj11).bind fun t279 => (if t279 = true then (if t256 = t246 then (if t262 = t246 then (if t264 = t246 then (if bt275.2 = t246 then ((suffix_Right.f kj11 t243 t243).bind fun t280 => (some (!t280))) else (some false)) else (some false)) else (some false)) else (some false)) else (some false)))))) = some r := by rw [if_neg (show ¬ (false = true) by decide)] at H; exact H
    clear H
    have H := H1
    clear H1
    by_cases c26 : t246 = 0
    ·rw [if_pos c26] at H
     have c26b0 : (t246 == 0) = true := beq_iff_eq.mpr c26
     have c26b1 : (t246 != 0) = false := bne_eq_false_iff_eq.mpr c26
     clear c26
     by_cases c27 : a1 ≥ 0
     ·rw [if_pos c27] at H
      have c27b0 : decide (0 ≤ a1) = true := decide_eq_true c27
      clear c27
      by_cases c28 : a1 < (t243.length : Int)
      ·rw [if_pos c28] at H
       have c28b0 : decide (a1 < (t243.length : Int)) = true := decide_eq_true c28
       clear c28
       by_cases c29 : a2 ≥ 0
       ·rw [if_pos c29] at H
        have c29b0 : decide (0 ≤ a2) = true := decide_eq_true c29
        clear c29
        replace H := Option.bind_eq_some_iff.mp H
        obtain ⟨t268, A300, H⟩ := H
        replace H : (if t268 = true then (if ((t256 == 0) == (decide (a2 < (t243.length : Int)))) = true then (if ((t262 == 0) == (decide (a2 < (t243.length : Int)))) = true then (if a2 < (t243.length : Int) then (some true) else (if t256 = 10 then (if t262 = 10 then (some true) else (some false)) else (some false))) else (some false)) else (some false)) else (some false)) = some r := H
        have A30 := Aside0.mk A300
        clear A300
        by_cases c31 : t268 = true
        ·subst c31
         have H1 : (if ((t256 == 0) == (decide (a2 < (t243.length : Int)))) = true then (if ((t262 == 0) == (decide (a2 < (t243.length : Int)))) = true then (if a2 < (t243.length : Int) then (some true) else (if t256 = 10 then (if t262 = 10 then (some true) else (some false)) else (some false))) else (some false)) else (some false)) = some r := by rw [if_pos rfl] at H; exact H
         clear H
         have H := H1
         clear H1
         by_cases c32 : ((t256 == 0) == (decide (a2 < (t243.length : Int)))) = true
         ·rw [if_pos c32] at H
          have c32b0 : ((t256 == 0) == (decide (a2 < (t243.length : Int)))) = true := c32
          (try (have c32b1 : decide ((t256 == 0) = (decide (a2 < (t243.length : Int)))) = true := by simpa using c32))
          (try (have c32b2 : ((t256 == 0) == (decide (a2 < (t243.length : Int)))) = true := by simpa using c32))
          clear c32
          by_cases c33 : ((t262 == 0) == (decide (a2 < (t243.length : Int)))) = true
          ·rw [if_pos c33] at H
           have c33b0 : ((t262 == 0) == (decide (a2 < (t243.length : Int)))) = true := c33
           (try (have c33b1 : decide ((t262 == 0) = (decide (a2 < (t243.length : Int)))) = true := by simpa using c33))
           (try (have c33b2 : ((t262 == 0) == (decide (a2 < (t243.length : Int)))) = true := by simpa using c33))
           clear c33
           by_cases c34 : a2 < (t243.length : Int)
           ·rw [if_pos c34] at H
            have c34b0 : decide (a2 < (t243.length : Int)) = true := decide_eq_true c34
            clear c34
            have c32dc34 : (t256 == 0) = true := by have h := c32b0; rw [c34b0] at h; simpa using h
            have c32ec34 : t256 = 0 := by have h := c32dc34; simpa using h
            clear c32b0
            (try clear c32b1)
            (try clear c32b2)
            have c33dc34 : (t262 == 0) = true := by have h := c33b0; rw [c34b0] at h; simpa using h
            have c33ec34 : t262 = 0 := by have h := c33dc34; simpa using h
            clear c33b0
            (try clear c33b1)
            (try clear c33b2)
            obtain rfl := Option.some.inj H
            go_wp2_with (first | ((with_reducible refine gate_callee (f := 16) rfl ?_); refine goesL_ (some 137) rfl rfl Try.func16 (by kernel_rfl) rfl #[] rfl (by (try simp only [List.map_toArray, List.map_cons, List.map_nil]); first | done | rfl | (simp only [List.length_drop, List.length_take]; rfl)) ?_; (with_reducible refine (incipitlaw15_known.calls kj11  true _ A30.out).mono ?_); rintro e w35 ⟨rfl, hb⟩; refine ⟨_, rfl, ?_⟩; have n0_ := Aside0.mk (Kd.V_below (by (with_reducible repeat (first | apply Kd.V_alloc | apply Kd.V_drewN | apply Kd.V_drew)); exact HO_0.out) hb); have n1_ := Aside0.mk (below_step (by repeat (first | (with_reducible first | exact HB.out | apply below_alloc | apply pw_below_drewN | apply below_drew1) | exact HB.out)) hb); clear HO_0; clear HB; have HO_0 := n0_; have HB := n1_; clear n0_ n1_; (try clear hb); (try clear hb2); (try clear hk); (try clear hi)))
            go_ret
            exact ⟨by first | rfl | (simp [errW_none, errW_some] <;> rfl) | (simp [*, errW_none, errW_some] <;> rfl), by repeat (first | (with_reducible first | exact HB.out | apply below_alloc | apply pw_below_drewN | apply below_drew1) | exact HB.out)⟩
           ·rw [if_neg c34] at H
            have c34b0 : decide (a2 < (t243.length : Int)) = false := decide_eq_false c34
            clear c34
            have c32dc34 : (t256 == 0) = false := by have h := c32b0; rw [c34b0] at h; simpa using h
            have c32ec34 : ¬ t256 = 0 := by have h := c32dc34; simpa using h
            clear c32b0
            (try clear c32b1)
            (try clear c32b2)
            have c33dc34 : (t262 == 0) = false := by have h := c33b0; rw [c34b0] at h; simpa using h
            have c33ec34 : ¬ t262 = 0 := by have h := c33dc34; simpa using h
            clear c33b0
            (try clear c33b1)
            (try clear c33b2)
            by_cases c36 : t256 = 10
            ·rw [if_pos c36] at H
             have c36b0 : (t256 == 10) = true := beq_iff_eq.mpr c36
             have c36b1 : (t256 != 10) = false := bne_eq_false_iff_eq.mpr c36
             clear c36
             by_cases c37 : t262 = 10
             ·rw [if_pos c37] at H
              have c37b0 : (t262 == 10) = true := beq_iff_eq.mpr c37
              have c37b1 : (t262 != 10) = false := bne_eq_false_iff_eq.mpr c37
              clear c37
              obtain rfl := Option.some.inj H
              go_wp2_with (first | ((with_reducible refine gate_callee (f := 16) rfl ?_); refine goesL_ (some 137) rfl rfl Try.func16 (by kernel_rfl) rfl #[] rfl (by (try simp only [List.map_toArray, List.map_cons, List.map_nil]); first | done | rfl | (simp only [List.length_drop, List.length_take]; rfl)) ?_; (with_reducible refine (incipitlaw15_known.calls kj11  true _ A30.out).mono ?_); rintro e w38 ⟨rfl, hb⟩; refine ⟨_, rfl, ?_⟩; have n0_ := Aside0.mk (Kd.V_below (by (with_reducible repeat (first | apply Kd.V_alloc | apply Kd.V_drewN | apply Kd.V_drew)); exact HO_0.out) hb); have n1_ := Aside0.mk (below_step (by repeat (first | (with_reducible first | exact HB.out | apply below_alloc | apply pw_below_drewN | apply below_drew1) | exact HB.out)) hb); clear HO_0; clear HB; have HO_0 := n0_; have HB := n1_; clear n0_ n1_; (try clear hb); (try clear hb2); (try clear hk); (try clear hi)))
              go_ret
              exact ⟨by first | rfl | (simp [errW_none, errW_some] <;> rfl) | (simp [*, errW_none, errW_some] <;> rfl), by repeat (first | (with_reducible first | exact HB.out | apply below_alloc | apply pw_below_drewN | apply below_drew1) | exact HB.out)⟩
             ·rw [if_neg c37] at H
              have c37b0 : (t262 == 10) = false := beq_eq_false_iff_ne.mpr c37
              have c37b1 : (t262 != 10) = true := bne_iff_ne.mpr c37
              exact absurd (HR_.out ▸ H) (by simp)
            ·rw [if_neg c36] at H
             have c36b0 : (t256 == 10) = false := beq_eq_false_iff_ne.mpr c36
             have c36b1 : (t256 != 10) = true := bne_iff_ne.mpr c36
             exact absurd (HR_.out ▸ H) (by simp)
          ·rw [if_neg c33] at H
           have c33b0 : ((t262 == 0) == (decide (a2 < (t243.length : Int)))) = false := by simpa using c33
           (try (have c33b1 : decide ((t262 == 0) = (decide (a2 < (t243.length : Int)))) = false := by simpa using c33))
           (try (have c33b2 : ((t262 == 0) == (decide (a2 < (t243.length : Int)))) = false := by simpa using c33))
           (try (have c33b3 : ¬ ((t262 == 0) = (decide (a2 < (t243.length : Int)))) := by simpa using c33))
           clear c33
           exact absurd (HR_.out ▸ H) (by simp)
         ·rw [if_neg c32] at H
          have c32b0 : ((t256 == 0) == (decide (a2 < (t243.length : Int)))) = false := by simpa using c32
          (try (have c32b1 : decide ((t256 == 0) = (decide (a2 < (t243.length : Int)))) = false := by simpa using c32))
          (try (have c32b2 : ((t256 == 0) == (decide (a2 < (t243.length : Int)))) = false := by simpa using c32))
          (try (have c32b3 : ¬ ((t256 == 0) = (decide (a2 < (t243.length : Int)))) := by simpa using c32))
          clear c32
          exact absurd (HR_.out ▸ H) (by simp)
        ·replace c31 := Bool.eq_false_iff.mpr c31
         subst c31
         have H1 : (some false) = some r := by rw [if_neg (show ¬ (false = true) by decide)] at H; exact H
         clear H
         have H := H1
         clear H1
         exact absurd (HR_.out ▸ H) (by simp)
       ·rw [if_neg c29] at H
        have c29b0 : decide (0 ≤ a2) = false := decide_eq_false c29
        clear c29
        replace H := Option.bind_eq_some_iff.mp H
        obtain ⟨t269, A390, H⟩ := H
        replace H : (if t269 = true then (if ((t256 == 0) == false) = true then (if ((t262 == 0) == false) = true then (if t256 = 10 then (if t262 = 10 then (some true) else (some false)) else (some false)) else (some false)) else (some false)) else (some false)) = some r := H
        have A39 := Aside0.mk A390
        clear A390
        by_cases c40 : t269 = true
        ·subst c40
         have H1 : (if ((t256 == 0) == false) = true then (if ((t262 == 0) == false) = true then (if t256 = 10 then (if t262 = 10 then (some true) else (some false)) else (some false)) else (some false)) else (some false)) = some r := by rw [if_pos rfl] at H; exact H
         clear H
         have H := H1
         clear H1
         by_cases c41 : ((t256 == 0) == false) = true
         ·rw [if_pos c41] at H
          have c41b0 : ((t256 == 0) == false) = true := c41
          (try (have c41b1 : decide ((t256 == 0) = false) = true := by simpa using c41))
          (try (have c41b2 : ((t256 == 0) == false) = true := by simpa using c41))
          clear c41
          by_cases c42 : ((t262 == 0) == false) = true
          ·rw [if_pos c42] at H
           have c42b0 : ((t262 == 0) == false) = true := c42
           (try (have c42b1 : decide ((t262 == 0) = false) = true := by simpa using c42))
           (try (have c42b2 : ((t262 == 0) == false) = true := by simpa using c42))
           clear c42
           by_cases c43 : t256 = 10
           ·rw [if_pos c43] at H
            have c43b0 : (t256 == 10) = true := beq_iff_eq.mpr c43
            have c43b1 : (t256 != 10) = false := bne_eq_false_iff_eq.mpr c43
            clear c43
            by_cases c44 : t262 = 10
            ·rw [if_pos c44] at H
             have c44b0 : (t262 == 10) = true := beq_iff_eq.mpr c44
             have c44b1 : (t262 != 10) = false := bne_eq_false_iff_eq.mpr c44
             clear c44
             obtain rfl := Option.some.inj H
             go_wp2_with (first | ((with_reducible refine gate_callee (f := 16) rfl ?_); refine goesL_ (some 137) rfl rfl Try.func16 (by kernel_rfl) rfl #[] rfl (by (try simp only [List.map_toArray, List.map_cons, List.map_nil]); first | done | rfl | (simp only [List.length_drop, List.length_take]; rfl)) ?_; (with_reducible refine (incipitlaw15_known.calls kj11  true _ A39.out).mono ?_); rintro e w45 ⟨rfl, hb⟩; refine ⟨_, rfl, ?_⟩; have n0_ := Aside0.mk (Kd.V_below (by (with_reducible repeat (first | apply Kd.V_alloc | apply Kd.V_drewN | apply Kd.V_drew)); exact HO_0.out) hb); have n1_ := Aside0.mk (below_step (by repeat (first | (with_reducible first | exact HB.out | apply below_alloc | apply pw_below_drewN | apply below_drew1) | exact HB.out)) hb); clear HO_0; clear HB; have HO_0 := n0_; have HB := n1_; clear n0_ n1_; (try clear hb); (try clear hb2); (try clear hk); (try clear hi)))
             go_ret
             exact ⟨by first | rfl | (simp [errW_none, errW_some] <;> rfl) | (simp [*, errW_none, errW_some] <;> rfl), by repeat (first | (with_reducible first | exact HB.out | apply below_alloc | apply pw_below_drewN | apply below_drew1) | exact HB.out)⟩
            ·rw [if_neg c44] at H
             have c44b0 : (t262 == 10) = false := beq_eq_false_iff_ne.mpr c44
             have c44b1 : (t262 != 10) = true := bne_iff_ne.mpr c44
             exact absurd (HR_.out ▸ H) (by simp)
           ·rw [if_neg c43] at H
            have c43b0 : (t256 == 10) = false := beq_eq_false_iff_ne.mpr c43
            have c43b1 : (t256 != 10) = true := bne_iff_ne.mpr c43
            exact absurd (HR_.out ▸ H) (by simp)
          ·rw [if_neg c42] at H
           have c42b0 : ((t262 == 0) == false) = false := by simpa using c42
           (try (have c42b1 : decide ((t262 == 0) = false) = false := by simpa using c42))
           (try (have c42b2 : ((t262 == 0) == false) = false := by simpa using c42))
           (try (have c42b3 : ¬ ((t262 == 0) = false) := by simpa using c42))
           clear c42
           exact absurd (HR_.out ▸ H) (by simp)
         ·rw [if_neg c41] at H
          have c41b0 : ((t256 == 0) == false) = false := by simpa using c41
          (try (have c41b1 : decide ((t256 == 0) = false) = false := by simpa using c41))
          (try (have c41b2 : ((t256 == 0) == false) = false := by simpa using c41))
          (try (have c41b3 : ¬ ((t256 == 0) = false) := by simpa using c41))
          clear c41
          exact absurd (HR_.out ▸ H) (by simp)
        ·replace c40 := Bool.eq_false_iff.mpr c40
         subst c40
         have H1 : (some false) = some r := by rw [if_neg (show ¬ (false = true) by decide)] at H; exact H
         clear H
         have H := H1
         clear H1
         exact absurd (HR_.out ▸ H) (by simp)
      ·rw [if_neg c28] at H
       have c28b0 : decide (a1 < (t243.length : Int)) = false := decide_eq_false c28
       clear c28
       replace H := Option.bind_eq_some_iff.mp H
       obtain ⟨t270, A460, H⟩ := H
       replace H : (if t270 = true then (if ((t256 == 0) == false) = true then (if ((t262 == 0) == false) = true then (if t256 = 10 then (if t262 = 10 then (some (t264 == 10)) else (some false)) else (some false)) else (some false)) else (some false)) else (some false)) = some r := H
       have A46 := Aside0.mk A460
       clear A460
       by_cases c47 : t270 = true
       ·subst c47
        have H1 : (if ((t256 == 0) == false) = true then (if ((t262 == 0) == false) = true then (if t256 = 10 then (if t262 = 10 then (some (t264 == 10)) else (some false)) else (some false)) else (some false)) else (some false)) = some r := by rw [if_pos rfl] at H; exact H
        clear H
        have H := H1
        clear H1
        by_cases c48 : ((t256 == 0) == false) = true
        ·rw [if_pos c48] at H
         have c48b0 : ((t256 == 0) == false) = true := c48
         (try (have c48b1 : decide ((t256 == 0) = false) = true := by simpa using c48))
         (try (have c48b2 : ((t256 == 0) == false) = true := by simpa using c48))
         clear c48
         by_cases c49 : ((t262 == 0) == false) = true
         ·rw [if_pos c49] at H
          have c49b0 : ((t262 == 0) == false) = true := c49
          (try (have c49b1 : decide ((t262 == 0) = false) = true := by simpa using c49))
          (try (have c49b2 : ((t262 == 0) == false) = true := by simpa using c49))
          clear c49
          by_cases c50 : t256 = 10
          ·rw [if_pos c50] at H
           have c50b0 : (t256 == 10) = true := beq_iff_eq.mpr c50
           have c50b1 : (t256 != 10) = false := bne_eq_false_iff_eq.mpr c50
           clear c50
           by_cases c51 : t262 = 10
           ·rw [if_pos c51] at H
            have c51b0 : (t262 == 10) = true := beq_iff_eq.mpr c51
            have c51b1 : (t262 != 10) = false := bne_eq_false_iff_eq.mpr c51
            clear c51
            obtain rfl := Option.some.inj H
            go_wp2_with (first | ((with_reducible refine gate_callee (f := 16) rfl ?_); refine goesL_ (some 137) rfl rfl Try.func16 (by kernel_rfl) rfl #[] rfl (by (try simp only [List.map_toArray, List.map_cons, List.map_nil]); first | done | rfl | (simp only [List.length_drop, List.length_take]; rfl)) ?_; (with_reducible refine (incipitlaw15_known.calls kj11  true _ A46.out).mono ?_); rintro e w52 ⟨rfl, hb⟩; refine ⟨_, rfl, ?_⟩; have n0_ := Aside0.mk (Kd.V_below (by (with_reducible repeat (first | apply Kd.V_alloc | apply Kd.V_drewN | apply Kd.V_drew)); exact HO_0.out) hb); have n1_ := Aside0.mk (below_step (by repeat (first | (with_reducible first | exact HB.out | apply below_alloc | apply pw_below_drewN | apply below_drew1) | exact HB.out)) hb); clear HO_0; clear HB; have HO_0 := n0_; have HB := n1_; clear n0_ n1_; (try clear hb); (try clear hb2); (try clear hk); (try clear hi)))
            go_ret
            exact ⟨by first | rfl | (simp [errW_none, errW_some] <;> rfl) | (simp [*, errW_none, errW_some] <;> rfl), by repeat (first | (with_reducible first | exact HB.out | apply below_alloc | apply pw_below_drewN | apply below_drew1) | exact HB.out)⟩
           ·rw [if_neg c51] at H
            have c51b0 : (t262 == 10) = false := beq_eq_false_iff_ne.mpr c51
            have c51b1 : (t262 != 10) = true := bne_iff_ne.mpr c51
            exact absurd (HR_.out ▸ H) (by simp)
          ·rw [if_neg c50] at H
           have c50b0 : (t256 == 10) = false := beq_eq_false_iff_ne.mpr c50
           have c50b1 : (t256 != 10) = true := bne_iff_ne.mpr c50
           exact absurd (HR_.out ▸ H) (by simp)
         ·rw [if_neg c49] at H
          have c49b0 : ((t262 == 0) == false) = false := by simpa using c49
          (try (have c49b1 : decide ((t262 == 0) = false) = false := by simpa using c49))
          (try (have c49b2 : ((t262 == 0) == false) = false := by simpa using c49))
          (try (have c49b3 : ¬ ((t262 == 0) = false) := by simpa using c49))
          clear c49
          exact absurd (HR_.out ▸ H) (by simp)
        ·rw [if_neg c48] at H
         have c48b0 : ((t256 == 0) == false) = false := by simpa using c48
         (try (have c48b1 : decide ((t256 == 0) = false) = false := by simpa using c48))
         (try (have c48b2 : ((t256 == 0) == false) = false := by simpa using c48))
         (try (have c48b3 : ¬ ((t256 == 0) = false) := by simpa using c48))
         clear c48
         exact absurd (HR_.out ▸ H) (by simp)
       ·replace c47 := Bool.eq_false_iff.mpr c47
        subst c47
        have H1 : (some false) = some r := by rw [if_neg (show ¬ (false = true) by decide)] at H; exact H
        clear H
        have H := H1
        clear H1
        exact absurd (HR_.out ▸ H) (by simp)
     ·rw [if_neg c27] at H
      have c27b0 : decide (0 ≤ a1) = false := decide_eq_false c27
      clear c27
      replace H := Option.bind_eq_some_iff.mp H
      obtain ⟨t271, A530, H⟩ := H
      replace H : (if t271 = true then (if ((t256 == 0) == false) = true then (if ((t262 == 0) == false) = true then (if t256 = 10 then (if t262 = 10 then (some (t264 == 10)) else (some false)) else (some false)) else (some false)) else (some false)) else (some false)) = some r := H
      have A53 := Aside0.mk A530
      clear A530
      by_cases c54 : t271 = true
      ·subst c54
       have H1 : (if ((t256 == 0) == false) = true then (if ((t262 == 0) == false) = true then (if t256 = 10 then (if t262 = 10 then (some (t264 == 10)) else (some false)) else (some false)) else (some false)) else (some false)) = some r := by rw [if_pos rfl] at H; exact H
       clear H
       have H := H1
       clear H1
       by_cases c55 : ((t256 == 0) == false) = true
       ·rw [if_pos c55] at H
        have c55b0 : ((t256 == 0) == false) = true := c55
        (try (have c55b1 : decide ((t256 == 0) = false) = true := by simpa using c55))
        (try (have c55b2 : ((t256 == 0) == false) = true := by simpa using c55))
        clear c55
        by_cases c56 : ((t262 == 0) == false) = true
        ·rw [if_pos c56] at H
         have c56b0 : ((t262 == 0) == false) = true := c56
         (try (have c56b1 : decide ((t262 == 0) = false) = true := by simpa using c56))
         (try (have c56b2 : ((t262 == 0) == false) = true := by simpa using c56))
         clear c56
         by_cases c57 : t256 = 10
         ·rw [if_pos c57] at H
          have c57b0 : (t256 == 10) = true := beq_iff_eq.mpr c57
          have c57b1 : (t256 != 10) = false := bne_eq_false_iff_eq.mpr c57
          clear c57
          by_cases c58 : t262 = 10
          ·rw [if_pos c58] at H
           have c58b0 : (t262 == 10) = true := beq_iff_eq.mpr c58
           have c58b1 : (t262 != 10) = false := bne_eq_false_iff_eq.mpr c58
           clear c58
           obtain rfl := Option.some.inj H
           go_wp2_with (first | ((with_reducible refine gate_callee (f := 16) rfl ?_); refine goesL_ (some 137) rfl rfl Try.func16 (by kernel_rfl) rfl #[] rfl (by (try simp only [List.map_toArray, List.map_cons, List.map_nil]); first | done | rfl | (simp only [List.length_drop, List.length_take]; rfl)) ?_; (with_reducible refine (incipitlaw15_known.calls kj11  true _ A53.out).mono ?_); rintro e w59 ⟨rfl, hb⟩; refine ⟨_, rfl, ?_⟩; have n0_ := Aside0.mk (Kd.V_below (by (with_reducible repeat (first | apply Kd.V_alloc | apply Kd.V_drewN | apply Kd.V_drew)); exact HO_0.out) hb); have n1_ := Aside0.mk (below_step (by repeat (first | (with_reducible first | exact HB.out | apply below_alloc | apply pw_below_drewN | apply below_drew1) | exact HB.out)) hb); clear HO_0; clear HB; have HO_0 := n0_; have HB := n1_; clear n0_ n1_; (try clear hb); (try clear hb2); (try clear hk); (try clear hi)))
           go_ret
           exact ⟨by first | rfl | (simp [errW_none, errW_some] <;> rfl) | (simp [*, errW_none, errW_some] <;> rfl), by repeat (first | (with_reducible first | exact HB.out | apply below_alloc | apply pw_below_drewN | apply below_drew1) | exact HB.out)⟩
          ·rw [if_neg c58] at H
           have c58b0 : (t262 == 10) = false := beq_eq_false_iff_ne.mpr c58
           have c58b1 : (t262 != 10) = true := bne_iff_ne.mpr c58
           exact absurd (HR_.out ▸ H) (by simp)
         ·rw [if_neg c57] at H
          have c57b0 : (t256 == 10) = false := beq_eq_false_iff_ne.mpr c57
          have c57b1 : (t256 != 10) = true := bne_iff_ne.mpr c57
          exact absurd (HR_.out ▸ H) (by simp)
        ·rw [if_neg c56] at H
         have c56b0 : ((t262 == 0) == false) = false := by simpa using c56
         (try (have c56b1 : decide ((t262 == 0) = false) = false := by simpa using c56))
         (try (have c56b2 : ((t262 == 0) == false) = false := by simpa using c56))
         (try (have c56b3 : ¬ ((t262 == 0) = false) := by simpa using c56))
         clear c56
         exact absurd (HR_.out ▸ H) (by simp)
       ·rw [if_neg c55] at H
        have c55b0 : ((t256 == 0) == false) = false := by simpa using c55
        (try (have c55b1 : decide ((t256 == 0) = false) = false := by simpa using c55))
        (try (have c55b2 : ((t256 == 0) == false) = false := by simpa using c55))
        (try (have c55b3 : ¬ ((t256 == 0) = false) := by simpa using c55))
        clear c55
        exact absurd (HR_.out ▸ H) (by simp)
      ·replace c54 := Bool.eq_false_iff.mpr c54
       subst c54
       have H1 : (some false) = some r := by rw [if_neg (show ¬ (false = true) by decide)] at H; exact H
       clear H
       have H := H1
       clear H1
       exact absurd (HR_.out ▸ H) (by simp)
    ·rw [if_neg c26] at H
     have c26b0 : (t246 == 0) = false := beq_eq_false_iff_ne.mpr c26
     have c26b1 : (t246 != 0) = true := bne_iff_ne.mpr c26
     replace H := Option.bind_eq_some_iff.mp H
     obtain ⟨t272, A600, H⟩ := H
     replace H : ((suffix_Commons.f kj11 t243 t272).bind fun bt275 => ((incipitlaw15_known.f kj11).bind fun t279 => (if t279 = true then (if t256 = t246 then (if t262 = t246 then (if t264 = t246 then (if bt275.2 = t246 then ((suffix_Right.f kj11 t243 t243).bind fun t280 => (some (!t280))) else (some false)) else (some false)) else (some false)) else (some false)) else (some false)))) = some r := H
     have A60 := Aside0.mk A600
     clear A600
     replace H := Option.bind_eq_some_iff.mp H
     obtain ⟨⟨t275, t276⟩, A610, H⟩ := H
     replace H : ((incipitlaw15_known.f kj11).bind fun t279 => (if t279 = true then (if t256 = t246 then (if t262 = t246 then (if t264 = t246 then (if t276 = t246 then ((suffix_Right.f kj11 t243 t243).bind fun t280 => (some (!t280))) else (some false)) else (some false)) else (some false)) else (some false)) else (some false))) = some r := H
     have A61 := Aside0.mk A610
     clear A610
     replace H := Option.bind_eq_some_iff.mp H
     obtain ⟨t279, A620, H⟩ := H
     replace H : (if t279 = true then (if t256 = t246 then (if t262 = t246 then (if t264 = t246 then (if t276 = t246 then ((suffix_Right.f kj11 t243 t243).bind fun t280 => (some (!t280))) else (some false)) else (some false)) else (some false)) else (some false)) else (some false)) = some r := H
     have A62 := Aside0.mk A620
     clear A620
     by_cases c63 : t279 = true
     ·subst c63
      have H1 : (if t256 = t246 then (if t262 = t246 then (if t264 = t246 then (if t276 = t246 then ((suffix_Right.f kj11 t243 t243).bind fun t280 => (some (!t280))) else (some false)) else (some false)) else (some false)) else (some false)) = some r := by rw [if_pos rfl] at H; exact H
      clear H
      have H := H1
      clear H1
      by_cases c64 : t256 = t246
      ·rw [if_pos c64] at H
       have c64b0 : (t256 == t246) = true := beq_iff_eq.mpr c64
       have c64b1 : (t256 != t246) = false := bne_eq_false_iff_eq.mpr c64
       clear c64
       by_cases c65 : t262 = t246
       ·rw [if_pos c65] at H
        have c65b0 : (t262 == t246) = true := beq_iff_eq.mpr c65
        have c65b1 : (t262 != t246) = false := bne_eq_false_iff_eq.mpr c65
        clear c65
        by_cases c66 : t264 = t246
        ·rw [if_pos c66] at H
         have c66b0 : (t264 == t246) = true := beq_iff_eq.mpr c66
         have c66b1 : (t264 != t246) = false := bne_eq_false_iff_eq.mpr c66
         clear c66
         by_cases c67 : t276 = t246
         ·rw [if_pos c67] at H
          have c67b0 : (t276 == t246) = true := beq_iff_eq.mpr c67
          have c67b1 : (t276 != t246) = false := bne_eq_false_iff_eq.mpr c67
          clear c67
          replace H := Option.bind_eq_some_iff.mp H
          obtain ⟨t280, A680, H⟩ := H
          replace H : (some (!t280)) = some r := H
          have A68 := Aside0.mk A680
          clear A680
          obtain rfl := Option.some.inj H
          go_wp2_with (first | ((with_reducible refine gate_callee (f := 13) rfl ?_); refine goesL_ (some 87) rfl rfl Try.func13 (by kernel_rfl) rfl #[.slice Ao14 t243.length co14] rfl (by (try simp only [List.map_toArray, List.map_cons, List.map_nil]); first | done | rfl | (simp only [List.length_drop, List.length_take]; rfl)) ?_; (with_reducible refine (incipitlaw15_raw.calls (fun k_ => True) _ _ t243 t272 _ ?side1 A60.out).mono ?_); (case side1 => exact HO_0.out); rintro e w69 ⟨v273, rfl, ho0, hb⟩; refine ⟨_, rfl, ?_⟩; have n0_ := Aside0.mk (Kd.V_below (by (with_reducible repeat (first | apply Kd.V_alloc | apply Kd.V_drewN | apply Kd.V_drew)); exact HO_0.out) hb); have n1_ := Aside0.mk (Kd.V_lower (Kd.V_mono (ok' := fun k_ => True) ho0 (fun k_ hk_ => trivial)) (below_size (by repeat (first | (with_reducible first | exact HB.out | apply below_alloc | apply pw_below_drewN | apply below_drew1) | exact HB.out)))); have n2_ := Aside0.mk (below_step (by repeat (first | (with_reducible first | exact HB.out | apply below_alloc | apply pw_below_drewN | apply below_drew1) | exact HB.out)) hb); clear HO_0; clear HB; have HO_0 := n0_; have HO274 := n1_; have HB := n2_; clear n0_ n1_ n2_; (try clear hb); (try clear hb2); (try clear hk); (try clear hi); (try clear ho0); obtain ⟨Ao70, co70, eo70⟩ := Kd.V_slice HO274.out; subst eo70) | ((with_reducible refine gate_callee (f := 27) rfl ?_); refine goesL_ (some 88) rfl rfl Try.func27 (by kernel_rfl) rfl #[.slice Ao14 t243.length co14, .slice Ao70 t272.length co70] rfl (by (try simp only [List.map_toArray, List.map_cons, List.map_nil]); first | done | rfl | (simp only [List.length_drop, List.length_take]; rfl)) ?_; (with_reducible refine (suffix_Commons.calls kj11 _ _ t243 _ _ t272 t275 t276 _ ?side1 ?side2 ?side3 ?side4 A61.out).mono ?_); (case side1 => repeat (first | exact (Kd.V_reads' HO_0.out).2.2 | (with_reducible refine Kd.C_alloc ?_ _) | (with_reducible refine Kd.C_drewN ?_ _) | (with_reducible refine Kd.C_drew ?_))); (case side2 => exact (Kd.V_reads' HO_0.out).2.1); (case side3 => repeat (first | exact (Kd.V_reads' HO274.out).2.2 | (with_reducible refine Kd.C_alloc ?_ _) | (with_reducible refine Kd.C_drewN ?_ _) | (with_reducible refine Kd.C_drew ?_))); (case side4 => exact (Kd.V_reads' HO274.out).2.1); rintro e w71 ⟨v277, rfl, ho0, hb⟩; refine ⟨_, rfl, ?_⟩; have n0_ := Aside0.mk (Kd.V_elder' (by (with_reducible repeat (first | apply Kd.V_alloc | apply Kd.V_drewN | apply Kd.V_drew)); exact HO_0.out) (Kd.R_base ho0) hb); have n1_ := Aside0.mk (Kd.V_elder' (by (with_reducible repeat (first | apply Kd.V_alloc | apply Kd.V_drewN | apply Kd.V_drew)); exact HO274.out) (Kd.R_base ho0) hb); have n2_ := Aside0.mk (Kd.R_lower ho0 (below_size (by repeat (first | (with_reducible first | exact HB.out | apply below_alloc | apply pw_below_drewN | apply below_drew1) | exact HB.out)))); have n3_ := Aside0.mk (below_step (by repeat (first | (with_reducible first | exact HB.out | apply below_alloc | apply pw_below_drewN | apply below_drew1) | exact HB.out)) hb); clear HO_0; clear HO274; clear HB; have HO_0 := n0_; have HO274 := n1_; have HO278 := n2_; have HB := n3_; clear n0_ n1_ n2_ n3_; (try clear hb); (try clear hb2); (try clear hk); (try clear hi); (try clear ho0)) | ((with_reducible refine gate_callee (f := 16) rfl ?_); refine goesL_ (some 91) rfl rfl Try.func16 (by kernel_rfl) rfl #[] rfl (by (try simp only [List.map_toArray, List.map_cons, List.map_nil]); first | done | rfl | (simp only [List.length_drop, List.length_take]; rfl)) ?_; (with_reducible refine (incipitlaw15_known.calls kj11  true _ A62.out).mono ?_); rintro e w72 ⟨rfl, hb⟩; refine ⟨_, rfl, ?_⟩; have n0_ := Aside0.mk (Kd.V_below (by (with_reducible repeat (first | apply Kd.V_alloc | apply Kd.V_drewN | apply Kd.V_drew)); exact HO_0.out) hb); have n1_ := Aside0.mk (Kd.V_below (by (with_reducible repeat (first | apply Kd.V_alloc | apply Kd.V_drewN | apply Kd.V_drew)); exact HO274.out) hb); have n2_ := Aside0.mk (Kd.R_below (by (with_reducible repeat (first | apply Kd.R_alloc | apply Kd.R_drewN | apply Kd.R_drew)); exact HO278.out) hb); have n3_ := Aside0.mk (below_step (by repeat (first | (with_reducible first | exact HB.out | apply below_alloc | apply pw_below_drewN | apply below_drew1) | exact HB.out)) hb); clear HO_0; clear HO274; clear HO278; clear HB; have HO_0 := n0_; have HO274 := n1_; have HO278 := n2_; have HB := n3_; clear n0_ n1_ n2_ n3_; (try clear hb); (try clear hb2); (try clear hk); (try clear hi)) | (go_at_call 19; (with_reducible refine (suffix_Right.calls kj11 _ _ t243 _ _ t243 t280 _ ?side1 ?side2 ?side3 ?side4 A68.out).mono ?_); (case side1 => repeat (first | exact (Kd.V_reads' HO_0.out).2.2 | (with_reducible refine Kd.C_alloc ?_ _) | (with_reducible refine Kd.C_drewN ?_ _) | (with_reducible refine Kd.C_drew ?_))); (case side2 => exact (Kd.V_reads' HO_0.out).2.1); (case side3 => repeat (first | exact (Kd.V_reads' HO_0.out).2.2 | (with_reducible refine Kd.C_alloc ?_ _) | (with_reducible refine Kd.C_drewN ?_ _) | (with_reducible refine Kd.C_drew ?_))); (case side4 => exact (Kd.V_reads' HO_0.out).2.1); rintro e w73 ⟨rfl, hb⟩; have n0_ := Aside0.mk (Kd.V_below (by (with_reducible repeat (first | apply Kd.V_alloc | apply Kd.V_drewN | apply Kd.V_drew)); exact HO_0.out) hb); have n1_ := Aside0.mk (Kd.V_below (by (with_reducible repeat (first | apply Kd.V_alloc | apply Kd.V_drewN | apply Kd.V_drew)); exact HO274.out) hb); have n2_ := Aside0.mk (Kd.R_below (by (with_reducible repeat (first | apply Kd.R_alloc | apply Kd.R_drewN | apply Kd.R_drew)); exact HO278.out) hb); have n3_ := Aside0.mk (below_step (by repeat (first | (with_reducible first | exact HB.out | apply below_alloc | apply pw_below_drewN | apply below_drew1) | exact HB.out)) hb); clear HO_0; clear HO274; clear HO278; clear HB; have HO_0 := n0_; have HO274 := n1_; have HO278 := n2_; have HB := n3_; clear n0_ n1_ n2_ n3_; (try clear hb); (try clear hb2); (try clear hk); (try clear hi)))
          go_ret
          exact ⟨by first | rfl | (simp [errW_none, errW_some] <;> rfl) | (simp [*, errW_none, errW_some] <;> rfl), by repeat (first | (with_reducible first | exact HB.out | apply below_alloc | apply pw_below_drewN | apply below_drew1) | exact HB.out)⟩
         ·rw [if_neg c67] at H
          have c67b0 : (t276 == t246) = false := beq_eq_false_iff_ne.mpr c67
          have c67b1 : (t276 != t246) = true := bne_iff_ne.mpr c67
          exact absurd (HR_.out ▸ H) (by simp)
        ·rw [if_neg c66] at H
         have c66b0 : (t264 == t246) = false := beq_eq_false_iff_ne.mpr c66
         have c66b1 : (t264 != t246) = true := bne_iff_ne.mpr c66
         exact absurd (HR_.out ▸ H) (by simp)
       ·rw [if_neg c65] at H
        have c65b0 : (t262 == t246) = false := beq_eq_false_iff_ne.mpr c65
        have c65b1 : (t262 != t246) = true := bne_iff_ne.mpr c65
        exact absurd (HR_.out ▸ H) (by simp)
      ·rw [if_neg c64] at H
       have c64b0 : (t256 == t246) = false := beq_eq_false_iff_ne.mpr c64
       have c64b1 : (t256 != t246) = true := bne_iff_ne.mpr c64
       exact absurd (HR_.out ▸ H) (by simp)
     ·replace c63 := Bool.eq_false_iff.mpr c63
      subst c63
      have H1 : (some false) = some r := by rw [if_neg (show ¬ (false = true) by decide)] at H; exact H
      clear H
      have H := H1
      clear H1
      exact absurd (HR_.out ▸ H) (by simp)

/-- THE ONE PURE STATEMENT of incipitlaw15_SuffixChecks: yours. -/
def incipitlaw15_SuffixChecks.Pure : Prop := ∀ (l0 : List Int) (a1 : Int) (a2 : Int), l0.length ≤ maxLen → l0.length * 8 ≤ 140737488351232 → (∀ x ∈ l0, (Lit.int .i64 x).wf = true) → (Lit.int .i64 a1).wf = true → (Lit.int .i64 a2).wf = true → ∃ k, incipitlaw15_SuffixChecks.f k l0 a1 a2 = some true
theorem incipitlaw15_SuffixChecks.walk (P : incipitlaw15_SuffixChecks.Pure) (a0 : Option Addr) (len0 cap0 : Nat) (z0 : List Int) (a1 : Int) (a2 : Int) (w : World) (w0 : (a0 = none ∧ len0 = 0 ∧ cap0 = 0 ∧ z0 = []) ∨ ∃ x, a0 = some x ∧ len0 ≤ cap0 ∧ cap0 ≤ maxLen ∧ z0.length = cap0 ∧ (∀ i, i < z0.length → w.cell? (x.add i) = some (.int .i64 (z0.getD i 0))) ∧ ∀ n ∈ z0, (Lit.int .i64 n).wf = true) (y0 : len0 * 8 ≤ 140737488351232) (w1 : (Lit.int .i64 a1).wf = true) (w2 : (Lit.int .i64 a2).wf = true) :
  Calls Try.prog 7 #[.slice a0 len0 cap0, .int .i64 a1, .int .i64 a2] w fun e w' => e = .returned (.bool true) ∧ Below w.heap.size w w' := by
 obtain ⟨l0, rfl, hr0, hm0, hw0, hc0⟩ := ReadsInt.ofRowC w0
 obtain ⟨k, h⟩ := P l0 a1 a2 hm0 y0 hw0 w1 w2
 refine (incipitlaw15_SuffixChecks.calls k _ _ l0 a1 a2 true w (Kd.C_of_reads (d := (0 : Int)) (h1 := fun _ => rfl) hr0) hc0 h rfl).mono ?_
 rintro e w' ⟨rfl, hd⟩
 exact ⟨rfl, hd⟩

end Go.Proofs.Ythkofhidhghmmaa.PSufC
