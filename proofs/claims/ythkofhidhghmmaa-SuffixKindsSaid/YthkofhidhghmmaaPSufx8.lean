-- Written by a program of this session (wip/tools/pp.sh, on the pattern of the kit's print): not typed by hand.
import Derived.Test.YthkofhidhghmmaaPSufx0
import Derived.Test.YthkofhidhghmmaaPSufx1
import Derived.Test.YthkofhidhghmmaaPSufx4
import Derived.Test.YthkofhidhghmmaaPSufx5
import Derived.Test.YthkofhidhghmmaaPSufx6
import Derived.Test.YthkofhidhghmmaaPSufx7
namespace Go.Proofs.Ythkofhidhghmmaa.PSuf
open Go.RowKit Go.Proofs.YthkofhidhghmmaaW.PrintWords Go.Proofs.YthkofhidhghmmaaW.PrintLast Go.Proofs.YthkofhidhghmmaaW.PrintMore
attribute [local go_sem] max2_int min2_int max_two min_two max_three min_three max_four min_four   -- for this text's walks alone
set_option linter.unusedVariables false
set_option linter.unusedSimpArgs false

/-! ### incipitlaw15_SuffixKinds: function 5 -/
mutual
def incipitlaw15_SuffixKinds.j0 : Nat → Int → List Int → List Bool → List Bool → List Int → Bool → Option (Bool)
 | 0, _, _, _, _, _, _ => none
 | k + 1, x2, x7, x8, x10, x13, x54 => if x54 = true then (some false) else (incipitlaw15_SuffixKinds.l0 k x2 x7 x8 x10 x13 0)
def incipitlaw15_SuffixKinds.l0 : Nat → Int → List Int → List Bool → List Bool → List Int → Int → Option (Bool)
 | 0, _, _, _, _, _, _ => none
 | k + 1, x2, x7, x8, x10, x13, x14 => if x14 < (x8.length : Int) then (if 0 ≤ x14 then (if x14 < (x10.length : Int) then (if ((rdOf false x8 x14) != (rdOf false x10 x14)) = true then (some false) else (incipitlaw15_SuffixKinds.l0 k x2 x7 x8 x10 x13 (wrap64 (x14 + 1)))) else (none)) else (none)) else (if (IntKind.u64.wrap ((x7.length : Int))) = 0 then (none) else ((suffix_Piece.f k x7 (wrap64 (Int.tmod (IntKind.u64.wrap (x2)) (IntKind.u64.wrap ((x7.length : Int)))))).bind fun bt306 => (incipitlaw15_SuffixKinds.l1 k (wrap64 (Int.tmod (IntKind.u64.wrap (x2)) (IntKind.u64.wrap ((x7.length : Int))))) x7 x13 bt306.1 bt306.2 0)))
def incipitlaw15_SuffixKinds.l1 : Nat → Int → List Int → List Int → List Int → Int → Int → Option (Bool)
 | 0, _, _, _, _, _, _ => none
 | k + 1, x2, x7, x13, x15, x16, x17 => if x17 < (x13.length : Int) then (if 0 ≤ x17 then (if (rd x13 x17) = x2 then (if (wrap64 (x17 + 1)) < (x13.length : Int) then (if 0 ≤ (wrap64 (x17 + 1)) then ((incipitlaw15_known.f k).bind fun t313 => (if t313 = true then (if x16 = 0 then (if 0 ≤ x2 then (if x2 ≤ (wrap64 ((rd x13 (wrap64 (x17 + 1))) + 1)) then (if (wrap64 ((rd x13 (wrap64 (x17 + 1))) + 1)) ≤ (x7.length : Int) then ((incipitref06_Same.f k x15 ((x7.take ((wrap64 ((rd x13 (wrap64 (x17 + 1))) + 1)) : Int).toNat).drop (x2 : Int).toNat)).bind fun t318 => (some t318)) else (none)) else (none)) else (none)) else (some false)) else (some false))) else (none)) else ((incipitlaw15_known.f k).bind fun t319 => (if t319 = true then (if x16 = 0 then (if 0 ≤ x2 then (if x2 ≤ (x7.length : Int) then (if (x7.length : Int) ≤ (x7.length : Int) then ((incipitref06_Same.f k x15 ((x7.take ((x7.length : Int) : Int).toNat).drop (x2 : Int).toNat)).bind fun t324 => (some t324)) else (none)) else (none)) else (none)) else (some false)) else (some false)))) else (incipitlaw15_SuffixKinds.l1 k x2 x7 x13 x15 x16 (wrap64 (x17 + 1)))) else (none)) else ((incipitlaw15_known.f k).bind fun t310 => (if t310 = true then (some (x16 == 7)) else (some false)))
end
def incipitlaw15_SuffixKinds.f (k : Nat) (l0 : List Int) (a1 : Int) (a2 : Int) : Option (Bool) := (incipitlaw15_Text.f k l0 a1).bind fun t286 => ((suffix_Kinds.f k t286).bind fun bt289 => ((incipitref15_Kinds.f k t286).bind fun t293 => ((suffix_Firsts.f k t286).bind fun bt296 => ((incipitref15_Firsts.f k t286).bind fun t300 => (if bt289.2 = 0 then (if (bt289.1.length : Int) = (t286.length : Int) then (if bt296.2 = 0 then ((incipitref06_Same.f k bt296.1 t300).bind fun t303 => (incipitlaw15_SuffixKinds.j0 k a2 t286 bt289.1 t293 t300 (!t303))) else (incipitlaw15_SuffixKinds.j0 k a2 t286 bt289.1 t293 t300 true)) else (incipitlaw15_SuffixKinds.j0 k a2 t286 bt289.1 t293 t300 true)) else (incipitlaw15_SuffixKinds.j0 k a2 t286 bt289.1 t293 t300 true))))))
theorem incipitlaw15_SuffixKinds.mono_l : ∀ k, (∀ y0 y1 y2 y3 y4 y5, LeO (incipitlaw15_SuffixKinds.j0 k y0 y1 y2 y3 y4 y5) (incipitlaw15_SuffixKinds.j0 (k + 1) y0 y1 y2 y3 y4 y5)) ∧ (∀ y0 y1 y2 y3 y4 y5, LeO (incipitlaw15_SuffixKinds.l0 k y0 y1 y2 y3 y4 y5) (incipitlaw15_SuffixKinds.l0 (k + 1) y0 y1 y2 y3 y4 y5)) ∧ (∀ y0 y1 y2 y3 y4 y5, LeO (incipitlaw15_SuffixKinds.l1 k y0 y1 y2 y3 y4 y5) (incipitlaw15_SuffixKinds.l1 (k + 1) y0 y1 y2 y3 y4 y5))
 | 0 => ⟨fun _ _ _ _ _ _ r h => by simp [incipitlaw15_SuffixKinds.j0] at h, fun _ _ _ _ _ _ r h => by simp [incipitlaw15_SuffixKinds.l0] at h, fun _ _ _ _ _ _ r h => by simp [incipitlaw15_SuffixKinds.l1] at h⟩
 | k + 1 => by
  obtain ⟨ih0, ih1, ih2⟩ := incipitlaw15_SuffixKinds.mono_l k
  refine ⟨?_, ?_, ?_⟩
  ·intro y0 y1 y2 y3 y4 y5
   unfold incipitlaw15_SuffixKinds.j0
   repeat' first
   | (with_reducible exact ih0 _ _ _ _ _ _)
   | (with_reducible exact ih1 _ _ _ _ _ _)
   | (with_reducible exact ih2 _ _ _ _ _ _)
   | (with_reducible exact incipitlaw15_Text.mono _ _ _)
   | (with_reducible exact incipitlaw15_known.mono _)
   | (with_reducible exact incipitref06_Same.mono _ _ _)
   | (with_reducible exact incipitref15_Firsts.mono _ _)
   | (with_reducible exact incipitref15_Kinds.mono _ _)
   | (with_reducible exact suffix_Firsts.mono _ _)
   | (with_reducible exact suffix_Kinds.mono _ _)
   | (with_reducible exact suffix_Piece.mono _ _ _)
   | (with_reducible exact LeO.refl _)
   | (with_reducible exact LeO.none _)
   | (with_reducible refine LeO.ite ?_ ?_)
   | (with_reducible refine LeO.bind ?_ (fun _ => ?_))
   | exact ih0 _ _ _ _ _ _
   | exact ih1 _ _ _ _ _ _
   | exact ih2 _ _ _ _ _ _
   | exact incipitlaw15_Text.mono _ _ _
   | exact incipitlaw15_known.mono _
   | exact incipitref06_Same.mono _ _ _
   | exact incipitref15_Firsts.mono _ _
   | exact incipitref15_Kinds.mono _ _
   | exact suffix_Firsts.mono _ _
   | exact suffix_Kinds.mono _ _
   | exact suffix_Piece.mono _ _ _
   | exact LeO.none _
   | refine LeO.ite ?_ ?_
   | refine LeO.bind ?_ (fun _ => ?_)
  ·intro y0 y1 y2 y3 y4 y5
   unfold incipitlaw15_SuffixKinds.l0
   repeat' first
   | (with_reducible exact ih0 _ _ _ _ _ _)
   | (with_reducible exact ih1 _ _ _ _ _ _)
   | (with_reducible exact ih2 _ _ _ _ _ _)
   | (with_reducible exact incipitlaw15_Text.mono _ _ _)
   | (with_reducible exact incipitlaw15_known.mono _)
   | (with_reducible exact incipitref06_Same.mono _ _ _)
   | (with_reducible exact incipitref15_Firsts.mono _ _)
   | (with_reducible exact incipitref15_Kinds.mono _ _)
   | (with_reducible exact suffix_Firsts.mono _ _)
   | (with_reducible exact suffix_Kinds.mono _ _)
   | (with_reducible exact suffix_Piece.mono _ _ _)
   | (with_reducible exact LeO.refl _)
   | (with_reducible exact LeO.none _)
   | (with_reducible refine LeO.ite ?_ ?_)
   | (with_reducible refine LeO.bind ?_ (fun _ => ?_))
   | exact ih0 _ _ _ _ _ _
   | exact ih1 _ _ _ _ _ _
   | exact ih2 _ _ _ _ _ _
   | exact incipitlaw15_Text.mono _ _ _
   | exact incipitlaw15_known.mono _
   | exact incipitref06_Same.mono _ _ _
   | exact incipitref15_Firsts.mono _ _
   | exact incipitref15_Kinds.mono _ _
   | exact suffix_Firsts.mono _ _
   | exact suffix_Kinds.mono _ _
   | exact suffix_Piece.mono _ _ _
   | exact LeO.none _
   | refine LeO.ite ?_ ?_
   | refine LeO.bind ?_ (fun _ => ?_)
  ·intro y0 y1 y2 y3 y4 y5
   unfold incipitlaw15_SuffixKinds.l1
   repeat' first
   | (with_reducible exact ih0 _ _ _ _ _ _)
   | (with_reducible exact ih1 _ _ _ _ _ _)
   | (with_reducible exact ih2 _ _ _ _ _ _)
   | (with_reducible exact incipitlaw15_Text.mono _ _ _)
   | (with_reducible exact incipitlaw15_known.mono _)
   | (with_reducible exact incipitref06_Same.mono _ _ _)
   | (with_reducible exact incipitref15_Firsts.mono _ _)
   | (with_reducible exact incipitref15_Kinds.mono _ _)
   | (with_reducible exact suffix_Firsts.mono _ _)
   | (with_reducible exact suffix_Kinds.mono _ _)
   | (with_reducible exact suffix_Piece.mono _ _ _)
   | (with_reducible exact LeO.refl _)
   | (with_reducible exact LeO.none _)
   | (with_reducible refine LeO.ite ?_ ?_)
   | (with_reducible refine LeO.bind ?_ (fun _ => ?_))
   | exact ih0 _ _ _ _ _ _
   | exact ih1 _ _ _ _ _ _
   | exact ih2 _ _ _ _ _ _
   | exact incipitlaw15_Text.mono _ _ _
   | exact incipitlaw15_known.mono _
   | exact incipitref06_Same.mono _ _ _
   | exact incipitref15_Firsts.mono _ _
   | exact incipitref15_Kinds.mono _ _
   | exact suffix_Firsts.mono _ _
   | exact suffix_Kinds.mono _ _
   | exact suffix_Piece.mono _ _ _
   | exact LeO.none _
   | refine LeO.ite ?_ ?_
   | refine LeO.bind ?_ (fun _ => ?_)
theorem incipitlaw15_SuffixKinds.mono : ∀ a0 a1 a2 k, LeO (incipitlaw15_SuffixKinds.f k a0 a1 a2) (incipitlaw15_SuffixKinds.f (k + 1) a0 a1 a2) := by
 intro a0 a1 a2 k
 obtain ⟨ih0, ih1, ih2⟩ := incipitlaw15_SuffixKinds.mono_l k
 unfold incipitlaw15_SuffixKinds.f
 repeat' first
   | (with_reducible exact ih0 _ _ _ _ _ _)
   | (with_reducible exact ih1 _ _ _ _ _ _)
   | (with_reducible exact ih2 _ _ _ _ _ _)
   | (with_reducible exact incipitlaw15_Text.mono _ _ _)
   | (with_reducible exact incipitlaw15_known.mono _)
   | (with_reducible exact incipitref06_Same.mono _ _ _)
   | (with_reducible exact incipitref15_Firsts.mono _ _)
   | (with_reducible exact incipitref15_Kinds.mono _ _)
   | (with_reducible exact suffix_Firsts.mono _ _)
   | (with_reducible exact suffix_Kinds.mono _ _)
   | (with_reducible exact suffix_Piece.mono _ _ _)
   | (with_reducible exact LeO.refl _)
   | (with_reducible exact LeO.none _)
   | (with_reducible refine LeO.ite ?_ ?_)
   | (with_reducible refine LeO.bind ?_ (fun _ => ?_))
   | exact ih0 _ _ _ _ _ _
   | exact ih1 _ _ _ _ _ _
   | exact ih2 _ _ _ _ _ _
   | exact incipitlaw15_Text.mono _ _ _
   | exact incipitlaw15_known.mono _
   | exact incipitref06_Same.mono _ _ _
   | exact incipitref15_Firsts.mono _ _
   | exact incipitref15_Kinds.mono _ _
   | exact suffix_Firsts.mono _ _
   | exact suffix_Kinds.mono _ _
   | exact suffix_Piece.mono _ _ _
   | exact LeO.none _
   | refine LeO.ite ?_ ?_
   | refine LeO.bind ?_ (fun _ => ?_)
set_option maxHeartbeats 8000000 in
set_option maxRecDepth 100000 in
theorem incipitlaw15_SuffixKinds.calls (k : Nat) (A0 : Option Addr) (c0 : Nat) (l0 : List Int) (a1 : Int) (a2 : Int) (r : Bool) (w : World) (hr0 : Kd.C (Kd.int .i64) w A0 l0.length l0) (hc0 : l0.length ≤ c0) (h : incipitlaw15_SuffixKinds.f k l0 a1 a2 = some r) (hr_ : r = true) :
  Calls Try.prog 5 #[.slice A0 l0.length c0, .int .i64 a1, .int .i64 a2] w fun e w' => e = .returned (.bool r) ∧ Below w.heap.size w w' := by
 have HR0 := Aside0.mk hr0
 have HC0 := Aside0.mk hc0
 clear hr0 hc0
 have HB := Aside0.mk (Below.refl w.heap.size w)
 have HR_ := Aside0.mk hr_
 clear hr_
 have H : ((incipitlaw15_Text.f k l0 a1).bind fun t286 => ((suffix_Kinds.f k t286).bind fun bt289 => ((incipitref15_Kinds.f k t286).bind fun t293 => ((suffix_Firsts.f k t286).bind fun bt296 => ((incipitref15_Firsts.f k t286).bind fun t300 => (if bt289.2 = 0 then (if (bt289.1.length : Int) = (t286.length : Int) then (if bt296.2 = 0 then ((incipitref06_Same.f k bt296.1 t300).bind fun t303 => (incipitlaw15_SuffixKinds.j0 k a2 t286 bt289.1 t293 t300 (!t303))) else (incipitlaw15_SuffixKinds.j0 k a2 t286 bt289.1 t293 t300 true)) else (incipitlaw15_SuffixKinds.j0 k a2 t286 bt289.1 t293 t300 true)) else (incipitlaw15_SuffixKinds.j0 k a2 t286 bt289.1 t293 t300 true))))))) = some r := h
 clear h
 replace H := Option.bind_eq_some_iff.mp H
 obtain ⟨t286, A40, H⟩ := H
 replace H : ((suffix_Kinds.f k t286).bind fun bt289 => ((incipitref15_Kinds.f k t286).bind fun t293 => ((suffix_Firsts.f k t286).bind fun bt296 => ((incipitref15_Firsts.f k t286).bind fun t300 => (if bt289.2 = 0 then (if (bt289.1.length : Int) = (t286.length : Int) then (if bt296.2 = 0 then ((incipitref06_Same.f k bt296.1 t300).bind fun t303 => (incipitlaw15_SuffixKinds.j0 k a2 t286 bt289.1 t293 t300 (!t303))) else (incipitlaw15_SuffixKinds.j0 k a2 t286 bt289.1 t293 t300 true)) else (incipitlaw15_SuffixKinds.j0 k a2 t286 bt289.1 t293 t300 true)) else (incipitlaw15_SuffixKinds.j0 k a2 t286 bt289.1 t293 t300 true)))))) = some r := H
 have A4 := Aside0.mk A40
 clear A40
 replace H := Option.bind_eq_some_iff.mp H
 obtain ⟨⟨t289, t290⟩, A50, H⟩ := H
 replace H : ((incipitref15_Kinds.f k t286).bind fun t293 => ((suffix_Firsts.f k t286).bind fun bt296 => ((incipitref15_Firsts.f k t286).bind fun t300 => (if t290 = 0 then (if (t289.length : Int) = (t286.length : Int) then (if bt296.2 = 0 then ((incipitref06_Same.f k bt296.1 t300).bind fun t303 => (incipitlaw15_SuffixKinds.j0 k a2 t286 t289 t293 t300 (!t303))) else (incipitlaw15_SuffixKinds.j0 k a2 t286 t289 t293 t300 true)) else (incipitlaw15_SuffixKinds.j0 k a2 t286 t289 t293 t300 true)) else (incipitlaw15_SuffixKinds.j0 k a2 t286 t289 t293 t300 true))))) = some r := H
 have A5 := Aside0.mk A50
 clear A50
 replace H := Option.bind_eq_some_iff.mp H
 obtain ⟨t293, A60, H⟩ := H
 replace H : ((suffix_Firsts.f k t286).bind fun bt296 => ((incipitref15_Firsts.f k t286).bind fun t300 => (if t290 = 0 then (if (t289.length : Int) = (t286.length : Int) then (if bt296.2 = 0 then ((incipitref06_Same.f k bt296.1 t300).bind fun t303 => (incipitlaw15_SuffixKinds.j0 k a2 t286 t289 t293 t300 (!t303))) else (incipitlaw15_SuffixKinds.j0 k a2 t286 t289 t293 t300 true)) else (incipitlaw15_SuffixKinds.j0 k a2 t286 t289 t293 t300 true)) else (incipitlaw15_SuffixKinds.j0 k a2 t286 t289 t293 t300 true)))) = some r := H
 have A6 := Aside0.mk A60
 clear A60
 replace H := Option.bind_eq_some_iff.mp H
 obtain ⟨⟨t296, t297⟩, A70, H⟩ := H
 replace H : ((incipitref15_Firsts.f k t286).bind fun t300 => (if t290 = 0 then (if (t289.length : Int) = (t286.length : Int) then (if t297 = 0 then ((incipitref06_Same.f k t296 t300).bind fun t303 => (incipitlaw15_SuffixKinds.j0 k a2 t286 t289 t293 t300 (!t303))) else (incipitlaw15_SuffixKinds.j0 k a2 t286 t289 t293 t300 true)) else (incipitlaw15_SuffixKinds.j0 k a2 t286 t289 t293 t300 true)) else (incipitlaw15_SuffixKinds.j0 k a2 t286 t289 t293 t300 true))) = some r := H
 have A7 := Aside0.mk A70
 clear A70
 replace H := Option.bind_eq_some_iff.mp H
 obtain ⟨t300, A80, H⟩ := H
 replace H : (if t290 = 0 then (if (t289.length : Int) = (t286.length : Int) then (if t297 = 0 then ((incipitref06_Same.f k t296 t300).bind fun t303 => (incipitlaw15_SuffixKinds.j0 k a2 t286 t289 t293 t300 (!t303))) else (incipitlaw15_SuffixKinds.j0 k a2 t286 t289 t293 t300 true)) else (incipitlaw15_SuffixKinds.j0 k a2 t286 t289 t293 t300 true)) else (incipitlaw15_SuffixKinds.j0 k a2 t286 t289 t293 t300 true)) = some r := H
 have A8 := Aside0.mk A80
 clear A80
 have HC9 := Aside0.mk H
 clear H
 go_enter Try.func5, Try.ntmps5
 go_upto_region 6 with (first | (go_at_call 20; (with_reducible refine (incipitlaw15_Text.calls k _ _ l0 a1 t286 _ ?side1 ?side2 A4.out).mono ?_); (case side1 => repeat (first | exact HR0.out | (with_reducible refine Kd.C_alloc ?_ _) | (with_reducible refine Kd.C_drewN ?_ _) | (with_reducible refine Kd.C_drew ?_))); (case side2 => exact HC0.out); rintro e w10 ⟨v287, rfl, ho0, hb⟩; have n0_ := Aside0.mk (Kd.R_lower ho0 (below_size (by repeat (first | (with_reducible first | exact HB.out | apply below_alloc | apply pw_below_drewN | apply below_drew1) | exact HB.out)))); have n1_ := Aside0.mk (below_step (by repeat (first | (with_reducible first | exact HB.out | apply below_alloc | apply pw_below_drewN | apply below_drew1) | exact HB.out)) hb); clear HB; have HO288 := n0_; have HB := n1_; clear n0_ n1_; (try clear hb); (try clear hb2); (try clear hk); (try clear hi); (try clear ho0); obtain ⟨Ao11, co11, eo11⟩ := Kd.R_slice HO288.out; subst eo11) | (go_at_call 21; (with_reducible refine (suffix_Kinds.calls k _ _ t286 t289 t290 _ ?side1 ?side2 A5.out).mono ?_); (case side1 => repeat (first | exact (Kd.R_reads' HO288.out).2.2 | (with_reducible refine Kd.C_alloc ?_ _) | (with_reducible refine Kd.C_drewN ?_ _) | (with_reducible refine Kd.C_drew ?_))); (case side2 => exact (Kd.R_reads' HO288.out).2.1); rintro e w12 ⟨v291, rfl, ho0, hb⟩; have n0_ := Aside0.mk (Kd.R_below (by (with_reducible repeat (first | apply Kd.R_alloc | apply Kd.R_drewN | apply Kd.R_drew)); exact HO288.out) hb); have n1_ := Aside0.mk (Kd.R_lower ho0 (below_size (by repeat (first | (with_reducible first | exact HB.out | apply below_alloc | apply pw_below_drewN | apply below_drew1) | exact HB.out)))); have n2_ := Aside0.mk (below_step (by repeat (first | (with_reducible first | exact HB.out | apply below_alloc | apply pw_below_drewN | apply below_drew1) | exact HB.out)) hb); clear HO288; clear HB; have HO288 := n0_; have HO292 := n1_; have HB := n2_; clear n0_ n1_ n2_; (try clear hb); (try clear hb2); (try clear hk); (try clear hi); (try clear ho0)) | (go_at_call 22; (with_reducible refine (incipitref15_Kinds.calls k _ _ t286 t293 _ ?side1 ?side2 A6.out).mono ?_); (case side1 => repeat (first | exact (Kd.R_reads' HO288.out).2.2 | (with_reducible refine Kd.C_alloc ?_ _) | (with_reducible refine Kd.C_drewN ?_ _) | (with_reducible refine Kd.C_drew ?_))); (case side2 => exact (Kd.R_reads' HO288.out).2.1); rintro e w13 ⟨v294, rfl, ho0, hb⟩; have n0_ := Aside0.mk (Kd.R_below (by (with_reducible repeat (first | apply Kd.R_alloc | apply Kd.R_drewN | apply Kd.R_drew)); exact HO288.out) hb); have n1_ := Aside0.mk (Kd.R_elder' (by (with_reducible repeat (first | apply Kd.R_alloc | apply Kd.R_drewN | apply Kd.R_drew)); exact HO292.out) (Kd.R_base ho0) hb); have n2_ := Aside0.mk (Kd.R_lower (Kd.R_new' ho0 (Kd.R_lt (by (with_reducible repeat (first | apply Kd.R_alloc | apply Kd.R_drewN | apply Kd.R_drew)); exact HO292.out))) (below_size (by repeat (first | (with_reducible first | exact HB.out | apply below_alloc | apply pw_below_drewN | apply below_drew1) | exact HB.out)))); have n3_ := Aside0.mk (below_step (by repeat (first | (with_reducible first | exact HB.out | apply below_alloc | apply pw_below_drewN | apply below_drew1) | exact HB.out)) hb); clear HO288; clear HO292; clear HB; have HO288 := n0_; have HO292 := n1_; have HO295 := n2_; have HB := n3_; clear n0_ n1_ n2_ n3_; (try clear hb); (try clear hb2); (try clear hk); (try clear hi); (try clear ho0)) | (go_at_call 23; (with_reducible refine (suffix_Firsts.calls k _ _ t286 t296 t297 _ ?side1 ?side2 A7.out).mono ?_); (case side1 => repeat (first | exact (Kd.R_reads' HO288.out).2.2 | (with_reducible refine Kd.C_alloc ?_ _) | (with_reducible refine Kd.C_drewN ?_ _) | (with_reducible refine Kd.C_drew ?_))); (case side2 => exact (Kd.R_reads' HO288.out).2.1); rintro e w14 ⟨v298, rfl, ho0, hb⟩; have n0_ := Aside0.mk (Kd.R_elder' (by (with_reducible repeat (first | apply Kd.R_alloc | apply Kd.R_drewN | apply Kd.R_drew)); exact HO288.out) (Kd.R_base ho0) hb); have n1_ := Aside0.mk (Kd.R_below (by (with_reducible repeat (first | apply Kd.R_alloc | apply Kd.R_drewN | apply Kd.R_drew)); exact HO292.out) hb); have n2_ := Aside0.mk (Kd.R_below (by (with_reducible repeat (first | apply Kd.R_alloc | apply Kd.R_drewN | apply Kd.R_drew)); exact HO295.out) hb); have n3_ := Aside0.mk (Kd.R_lower (Kd.R_new' ho0 (Kd.R_lt (by (with_reducible repeat (first | apply Kd.R_alloc | apply Kd.R_drewN | apply Kd.R_drew)); exact HO288.out))) (below_size (by repeat (first | (with_reducible first | exact HB.out | apply below_alloc | apply pw_below_drewN | apply below_drew1) | exact HB.out)))); have n4_ := Aside0.mk (below_step (by repeat (first | (with_reducible first | exact HB.out | apply below_alloc | apply pw_below_drewN | apply below_drew1) | exact HB.out)) hb); clear HO288; clear HO292; clear HO295; clear HB; have HO288 := n0_; have HO292 := n1_; have HO295 := n2_; have HO299 := n3_; have HB := n4_; clear n0_ n1_ n2_ n3_ n4_; (try clear hb); (try clear hb2); (try clear hk); (try clear hi); (try clear ho0)) | (go_at_call 24; (with_reducible refine (incipitref15_Firsts.calls k _ _ t286 t300 _ ?side1 ?side2 A8.out).mono ?_); (case side1 => repeat (first | exact (Kd.R_reads' HO288.out).2.2 | (with_reducible refine Kd.C_alloc ?_ _) | (with_reducible refine Kd.C_drewN ?_ _) | (with_reducible refine Kd.C_drew ?_))); (case side2 => exact (Kd.R_reads' HO288.out).2.1); rintro e w15 ⟨v301, rfl, ho0, hb⟩; have n0_ := Aside0.mk (Kd.R_elder' (by (with_reducible repeat (first | apply Kd.R_alloc | apply Kd.R_drewN | apply Kd.R_drew)); exact HO288.out) (Kd.R_base ho0) hb); have n1_ := Aside0.mk (Kd.R_below (by (with_reducible repeat (first | apply Kd.R_alloc | apply Kd.R_drewN | apply Kd.R_drew)); exact HO292.out) hb); have n2_ := Aside0.mk (Kd.R_below (by (with_reducible repeat (first | apply Kd.R_alloc | apply Kd.R_drewN | apply Kd.R_drew)); exact HO295.out) hb); have n3_ := Aside0.mk (Kd.R_elder' (by (with_reducible repeat (first | apply Kd.R_alloc | apply Kd.R_drewN | apply Kd.R_drew)); exact HO299.out) (Kd.R_base ho0) hb); have n4_ := Aside0.mk (Kd.R_lower (Kd.R_new' (Kd.R_new' ho0 (Kd.R_lt (by (with_reducible repeat (first | apply Kd.R_alloc | apply Kd.R_drewN | apply Kd.R_drew)); exact HO288.out))) (Kd.R_lt (by (with_reducible repeat (first | apply Kd.R_alloc | apply Kd.R_drewN | apply Kd.R_drew)); exact HO299.out))) (below_size (by repeat (first | (with_reducible first | exact HB.out | apply below_alloc | apply pw_below_drewN | apply below_drew1) | exact HB.out)))); have n5_ := Aside0.mk (below_step (by repeat (first | (with_reducible first | exact HB.out | apply below_alloc | apply pw_below_drewN | apply below_drew1) | exact HB.out)) hb); clear HO288; clear HO292; clear HO295; clear HO299; clear HB; have HO288 := n0_; have HO292 := n1_; have HO295 := n2_; have HO299 := n3_; have HO302 := n4_; have HB := n5_; clear n0_ n1_ n2_ n3_ n4_ n5_; (try clear hb); (try clear hb2); (try clear hk); (try clear hi); (try clear ho0)))
 repeat (go_quiet (first | (go_at_call 20; (with_reducible refine (incipitlaw15_Text.calls k _ _ l0 a1 t286 _ ?side1 ?side2 A4.out).mono ?_); (case side1 => repeat (first | exact HR0.out | (with_reducible refine Kd.C_alloc ?_ _) | (with_reducible refine Kd.C_drewN ?_ _) | (with_reducible refine Kd.C_drew ?_))); (case side2 => exact HC0.out); rintro e w10 ⟨v287, rfl, ho0, hb⟩; have n0_ := Aside0.mk (Kd.R_lower ho0 (below_size (by repeat (first | (with_reducible first | exact HB.out | apply below_alloc | apply pw_below_drewN | apply below_drew1) | exact HB.out)))); have n1_ := Aside0.mk (below_step (by repeat (first | (with_reducible first | exact HB.out | apply below_alloc | apply pw_below_drewN | apply below_drew1) | exact HB.out)) hb); clear HB; have HO288 := n0_; have HB := n1_; clear n0_ n1_; (try clear hb); (try clear hb2); (try clear hk); (try clear hi); (try clear ho0); obtain ⟨Ao11, co11, eo11⟩ := Kd.R_slice HO288.out; subst eo11) | (go_at_call 21; (with_reducible refine (suffix_Kinds.calls k _ _ t286 t289 t290 _ ?side1 ?side2 A5.out).mono ?_); (case side1 => repeat (first | exact (Kd.R_reads' HO288.out).2.2 | (with_reducible refine Kd.C_alloc ?_ _) | (with_reducible refine Kd.C_drewN ?_ _) | (with_reducible refine Kd.C_drew ?_))); (case side2 => exact (Kd.R_reads' HO288.out).2.1); rintro e w12 ⟨v291, rfl, ho0, hb⟩; have n0_ := Aside0.mk (Kd.R_below (by (with_reducible repeat (first | apply Kd.R_alloc | apply Kd.R_drewN | apply Kd.R_drew)); exact HO288.out) hb); have n1_ := Aside0.mk (Kd.R_lower ho0 (below_size (by repeat (first | (with_reducible first | exact HB.out | apply below_alloc | apply pw_below_drewN | apply below_drew1) | exact HB.out)))); have n2_ := Aside0.mk (below_step (by repeat (first | (with_reducible first | exact HB.out | apply below_alloc | apply pw_below_drewN | apply below_drew1) | exact HB.out)) hb); clear HO288; clear HB; have HO288 := n0_; have HO292 := n1_; have HB := n2_; clear n0_ n1_ n2_; (try clear hb); (try clear hb2); (try clear hk); (try clear hi); (try clear ho0)) | (go_at_call 22; (with_reducible refine (incipitref15_Kinds.calls k _ _ t286 t293 _ ?side1 ?side2 A6.out).mono ?_); (case side1 => repeat (first | exact (Kd.R_reads' HO288.out).2.2 | (with_reducible refine Kd.C_alloc ?_ _) | (with_reducible refine Kd.C_drewN ?_ _) | (with_reducible refine Kd.C_drew ?_))); (case side2 => exact (Kd.R_reads' HO288.out).2.1); rintro e w13 ⟨v294, rfl, ho0, hb⟩; have n0_ := Aside0.mk (Kd.R_below (by (with_reducible repeat (first | apply Kd.R_alloc | apply Kd.R_drewN | apply Kd.R_drew)); exact HO288.out) hb); have n1_ := Aside0.mk (Kd.R_elder' (by (with_reducible repeat (first | apply Kd.R_alloc | apply Kd.R_drewN | apply Kd.R_drew)); exact HO292.out) (Kd.R_base ho0) hb); have n2_ := Aside0.mk (Kd.R_lower (Kd.R_new' ho0 (Kd.R_lt (by (with_reducible repeat (first | apply Kd.R_alloc | apply Kd.R_drewN | apply Kd.R_drew)); exact HO292.out))) (below_size (by repeat (first | (with_reducible first | exact HB.out | apply below_alloc | apply pw_below_drewN | apply below_drew1) | exact HB.out)))); have n3_ := Aside0.mk (below_step (by repeat (first | (with_reducible first | exact HB.out | apply below_alloc | apply pw_below_drewN | apply below_drew1) | exact HB.out)) hb); clear HO288; clear HO292; clear HB; have HO288 := n0_; have HO292 := n1_; have HO295 := n2_; have HB := n3_; clear n0_ n1_ n2_ n3_; (try clear hb); (try clear hb2); (try clear hk); (try clear hi); (try clear ho0)) | (go_at_call 23; (with_reducible refine (suffix_Firsts.calls k _ _ t286 t296 t297 _ ?side1 ?side2 A7.out).mono ?_); (case side1 => repeat (first | exact (Kd.R_reads' HO288.out).2.2 | (with_reducible refine Kd.C_alloc ?_ _) | (with_reducible refine Kd.C_drewN ?_ _) | (with_reducible refine Kd.C_drew ?_))); (case side2 => exact (Kd.R_reads' HO288.out).2.1); rintro e w14 ⟨v298, rfl, ho0, hb⟩; have n0_ := Aside0.mk (Kd.R_elder' (by (with_reducible repeat (first | apply Kd.R_alloc | apply Kd.R_drewN | apply Kd.R_drew)); exact HO288.out) (Kd.R_base ho0) hb); have n1_ := Aside0.mk (Kd.R_below (by (with_reducible repeat (first | apply Kd.R_alloc | apply Kd.R_drewN | apply Kd.R_drew)); exact HO292.out) hb); have n2_ := Aside0.mk (Kd.R_below (by (with_reducible repeat (first | apply Kd.R_alloc | apply Kd.R_drewN | apply Kd.R_drew)); exact HO295.out) hb); have n3_ := Aside0.mk (Kd.R_lower (Kd.R_new' ho0 (Kd.R_lt (by (with_reducible repeat (first | apply Kd.R_alloc | apply Kd.R_drewN | apply Kd.R_drew)); exact HO288.out))) (below_size (by repeat (first | (with_reducible first | exact HB.out | apply below_alloc | apply pw_below_drewN | apply below_drew1) | exact HB.out)))); have n4_ := Aside0.mk (below_step (by repeat (first | (with_reducible first | exact HB.out | apply below_alloc | apply pw_below_drewN | apply below_drew1) | exact HB.out)) hb); clear HO288; clear HO292; clear HO295; clear HB; have HO288 := n0_; have HO292 := n1_; have HO295 := n2_; have HO299 := n3_; have HB := n4_; clear n0_ n1_ n2_ n3_ n4_; (try clear hb); (try clear hb2); (try clear hk); (try clear hi); (try clear ho0)) | (go_at_call 24; (with_reducible refine (incipitref15_Firsts.calls k _ _ t286 t300 _ ?side1 ?side2 A8.out).mono ?_); (case side1 => repeat (first | exact (Kd.R_reads' HO288.out).2.2 | (with_reducible refine Kd.C_alloc ?_ _) | (with_reducible refine Kd.C_drewN ?_ _) | (with_reducible refine Kd.C_drew ?_))); (case side2 => exact (Kd.R_reads' HO288.out).2.1); rintro e w15 ⟨v301, rfl, ho0, hb⟩; have n0_ := Aside0.mk (Kd.R_elder' (by (with_reducible repeat (first | apply Kd.R_alloc | apply Kd.R_drewN | apply Kd.R_drew)); exact HO288.out) (Kd.R_base ho0) hb); have n1_ := Aside0.mk (Kd.R_below (by (with_reducible repeat (first | apply Kd.R_alloc | apply Kd.R_drewN | apply Kd.R_drew)); exact HO292.out) hb); have n2_ := Aside0.mk (Kd.R_below (by (with_reducible repeat (first | apply Kd.R_alloc | apply Kd.R_drewN | apply Kd.R_drew)); exact HO295.out) hb); have n3_ := Aside0.mk (Kd.R_elder' (by (with_reducible repeat (first | apply Kd.R_alloc | apply Kd.R_drewN | apply Kd.R_drew)); exact HO299.out) (Kd.R_base ho0) hb); have n4_ := Aside0.mk (Kd.R_lower (Kd.R_new' (Kd.R_new' ho0 (Kd.R_lt (by (with_reducible repeat (first | apply Kd.R_alloc | apply Kd.R_drewN | apply Kd.R_drew)); exact HO288.out))) (Kd.R_lt (by (with_reducible repeat (first | apply Kd.R_alloc | apply Kd.R_drewN | apply Kd.R_drew)); exact HO299.out))) (below_size (by repeat (first | (with_reducible first | exact HB.out | apply below_alloc | apply pw_below_drewN | apply below_drew1) | exact HB.out)))); have n5_ := Aside0.mk (below_step (by repeat (first | (with_reducible first | exact HB.out | apply below_alloc | apply pw_below_drewN | apply below_drew1) | exact HB.out)) hb); clear HO288; clear HO292; clear HO295; clear HO299; clear HB; have HO288 := n0_; have HO292 := n1_; have HO295 := n2_; have HO299 := n3_; have HO302 := n4_; have HB := n5_; clear n0_ n1_ n2_ n3_ n4_ n5_; (try clear hb); (try clear hb2); (try clear hk); (try clear hi); (try clear ho0))); go_upto_region 6 with (first | (go_at_call 20; (with_reducible refine (incipitlaw15_Text.calls k _ _ l0 a1 t286 _ ?side1 ?side2 A4.out).mono ?_); (case side1 => repeat (first | exact HR0.out | (with_reducible refine Kd.C_alloc ?_ _) | (with_reducible refine Kd.C_drewN ?_ _) | (with_reducible refine Kd.C_drew ?_))); (case side2 => exact HC0.out); rintro e w10 ⟨v287, rfl, ho0, hb⟩; have n0_ := Aside0.mk (Kd.R_lower ho0 (below_size (by repeat (first | (with_reducible first | exact HB.out | apply below_alloc | apply pw_below_drewN | apply below_drew1) | exact HB.out)))); have n1_ := Aside0.mk (below_step (by repeat (first | (with_reducible first | exact HB.out | apply below_alloc | apply pw_below_drewN | apply below_drew1) | exact HB.out)) hb); clear HB; have HO288 := n0_; have HB := n1_; clear n0_ n1_; (try clear hb); (try clear hb2); (try clear hk); (try clear hi); (try clear ho0); obtain ⟨Ao11, co11, eo11⟩ := Kd.R_slice HO288.out; subst eo11) | (go_at_call 21; (with_reducible refine (suffix_Kinds.calls k _ _ t286 t289 t290 _ ?side1 ?side2 A5.out).mono ?_); (case side1 => repeat (first | exact (Kd.R_reads' HO288.out).2.2 | (with_reducible refine Kd.C_alloc ?_ _) | (with_reducible refine Kd.C_drewN ?_ _) | (with_reducible refine Kd.C_drew ?_))); (case side2 => exact (Kd.R_reads' HO288.out).2.1); rintro e w12 ⟨v291, rfl, ho0, hb⟩; have n0_ := Aside0.mk (Kd.R_below (by (with_reducible repeat (first | apply Kd.R_alloc | apply Kd.R_drewN | apply Kd.R_drew)); exact HO288.out) hb); have n1_ := Aside0.mk (Kd.R_lower ho0 (below_size (by repeat (first | (with_reducible first | exact HB.out | apply below_alloc | apply pw_below_drewN | apply below_drew1) | exact HB.out)))); have n2_ := Aside0.mk (below_step (by repeat (first | (with_reducible first | exact HB.out | apply below_alloc | apply pw_below_drewN | apply below_drew1) | exact HB.out)) hb); clear HO288; clear HB; have HO288 := n0_; have HO292 := n1_; have HB := n2_; clear n0_ n1_ n2_; (try clear hb); (try clear hb2); (try clear hk); (try clear hi); (try clear ho0)) | (go_at_call 22; (with_reducible refine (incipitref15_Kinds.calls k _ _ t286 t293 _ ?side1 ?side2 A6.out).mono ?_); (case side1 => repeat (first | exact (Kd.R_reads' HO288.out).2.2 | (with_reducible refine Kd.C_alloc ?_ _) | (with_reducible refine Kd.C_drewN ?_ _) | (with_reducible refine Kd.C_drew ?_))); (case side2 => exact (Kd.R_reads' HO288.out).2.1); rintro e w13 ⟨v294, rfl, ho0, hb⟩; have n0_ := Aside0.mk (Kd.R_below (by (with_reducible repeat (first | apply Kd.R_alloc | apply Kd.R_drewN | apply Kd.R_drew)); exact HO288.out) hb); have n1_ := Aside0.mk (Kd.R_elder' (by (with_reducible repeat (first | apply Kd.R_alloc | apply Kd.R_drewN | apply Kd.R_drew)); exact HO292.out) (Kd.R_base ho0) hb); have n2_ := Aside0.mk (Kd.R_lower (Kd.R_new' ho0 (Kd.R_lt (by (with_reducible repeat (first | apply Kd.R_alloc | apply Kd.R_drewN | apply Kd.R_drew)); exact HO292.out))) (below_size (by repeat (first | (with_reducible first | exact HB.out | apply below_alloc | apply pw_below_drewN | apply below_drew1) | exact HB.out)))); have n3_ := Aside0.mk (below_step (by repeat (first | (with_reducible first | exact HB.out | apply below_alloc | apply pw_below_drewN | apply below_drew1) | exact HB.out)) hb); clear HO288; clear HO292; clear HB; have HO288 := n0_; have HO292 := n1_; have HO295 := n2_; have HB := n3_; clear n0_ n1_ n2_ n3_; (try clear hb); (try clear hb2); (try clear hk); (try clear hi); (try clear ho0)) | (go_at_call 23; (with_reducible refine (suffix_Firsts.calls k _ _ t286 t296 t297 _ ?side1 ?side2 A7.out).mono ?_); (case side1 => repeat (first | exact (Kd.R_reads' HO288.out).2.2 | (with_reducible refine Kd.C_alloc ?_ _) | (with_reducible refine Kd.C_drewN ?_ _) | (with_reducible refine Kd.C_drew ?_))); (case side2 => exact (Kd.R_reads' HO288.out).2.1); rintro e w14 ⟨v298, rfl, ho0, hb⟩; have n0_ := Aside0.mk (Kd.R_elder' (by (with_reducible repeat (first | apply Kd.R_alloc | apply Kd.R_drewN | apply Kd.R_drew)); exact HO288.out) (Kd.R_base ho0) hb); have n1_ := Aside0.mk (Kd.R_below (by (with_reducible repeat (first | apply Kd.R_alloc | apply Kd.R_drewN | apply Kd.R_drew)); exact HO292.out) hb); have n2_ := Aside0.mk (Kd.R_below (by (with_reducible repeat (first | apply Kd.R_alloc | apply Kd.R_drewN | apply Kd.R_drew)); exact HO295.out) hb); have n3_ := Aside0.mk (Kd.R_lower (Kd.R_new' ho0 (Kd.R_lt (by (with_reducible repeat (first | apply Kd.R_alloc | apply Kd.R_drewN | apply Kd.R_drew)); exact HO288.out))) (below_size (by repeat (first | (with_reducible first | exact HB.out | apply below_alloc | apply pw_below_drewN | apply below_drew1) | exact HB.out)))); have n4_ := Aside0.mk (below_step (by repeat (first | (with_reducible first | exact HB.out | apply below_alloc | apply pw_below_drewN | apply below_drew1) | exact HB.out)) hb); clear HO288; clear HO292; clear HO295; clear HB; have HO288 := n0_; have HO292 := n1_; have HO295 := n2_; have HO299 := n3_; have HB := n4_; clear n0_ n1_ n2_ n3_ n4_; (try clear hb); (try clear hb2); (try clear hk); (try clear hi); (try clear ho0)) | (go_at_call 24; (with_reducible refine (incipitref15_Firsts.calls k _ _ t286 t300 _ ?side1 ?side2 A8.out).mono ?_); (case side1 => repeat (first | exact (Kd.R_reads' HO288.out).2.2 | (with_reducible refine Kd.C_alloc ?_ _) | (with_reducible refine Kd.C_drewN ?_ _) | (with_reducible refine Kd.C_drew ?_))); (case side2 => exact (Kd.R_reads' HO288.out).2.1); rintro e w15 ⟨v301, rfl, ho0, hb⟩; have n0_ := Aside0.mk (Kd.R_elder' (by (with_reducible repeat (first | apply Kd.R_alloc | apply Kd.R_drewN | apply Kd.R_drew)); exact HO288.out) (Kd.R_base ho0) hb); have n1_ := Aside0.mk (Kd.R_below (by (with_reducible repeat (first | apply Kd.R_alloc | apply Kd.R_drewN | apply Kd.R_drew)); exact HO292.out) hb); have n2_ := Aside0.mk (Kd.R_below (by (with_reducible repeat (first | apply Kd.R_alloc | apply Kd.R_drewN | apply Kd.R_drew)); exact HO295.out) hb); have n3_ := Aside0.mk (Kd.R_elder' (by (with_reducible repeat (first | apply Kd.R_alloc | apply Kd.R_drewN | apply Kd.R_drew)); exact HO299.out) (Kd.R_base ho0) hb); have n4_ := Aside0.mk (Kd.R_lower (Kd.R_new' (Kd.R_new' ho0 (Kd.R_lt (by (with_reducible repeat (first | apply Kd.R_alloc | apply Kd.R_drewN | apply Kd.R_drew)); exact HO288.out))) (Kd.R_lt (by (with_reducible repeat (first | apply Kd.R_alloc | apply Kd.R_drewN | apply Kd.R_drew)); exact HO299.out))) (below_size (by repeat (first | (with_reducible first | exact HB.out | apply below_alloc | apply pw_below_drewN | apply below_drew1) | exact HB.out)))); have n5_ := Aside0.mk (below_step (by repeat (first | (with_reducible first | exact HB.out | apply below_alloc | apply pw_below_drewN | apply below_drew1) | exact HB.out)) hb); clear HO288; clear HO292; clear HO295; clear HO299; clear HB; have HO288 := n0_; have HO292 := n1_; have HO295 := n2_; have HO299 := n3_; have HO302 := n4_; have HB := n5_; clear n0_ n1_ n2_ n3_ n4_ n5_; (try clear hb); (try clear hb2); (try clear hk); (try clear hi); (try clear ho0))))
 (try simp only [Act.put, List.setIfInBounds_toArray, List.set_cons_zero, List.set_cons_succ])
 go_cut [54] (fun v54 wc => ∃ (kq : Nat) (x54_8 : Bool), v54 = .bool x54_8 ∧ Aside0 (incipitlaw15_SuffixKinds.j0 kq a2 t286 t289 t293 t300 x54_8 = some r) ∧ Aside0 (kq ≤ k) ∧ Aside0 (Kd.R (Kd.int .i64) 3 wc w.heap.size (fun k_ => some k_ ≠ (v301 : Value).ownBlock) (.slice Ao11 t286.length co11) t286) ∧ Aside0 (Kd.R Kd.bool 4 wc w.heap.size (fun k_ => some k_ ≠ (v294 : Value).ownBlock) v291 t289) ∧ Aside0 (Kd.R Kd.bool 4 wc w.heap.size (fun k_ => some k_ ≠ (v291 : Value).ownBlock) v294 t293) ∧ Aside0 (Kd.R (Kd.int .i64) 3 wc w.heap.size (fun k_ => some k_ ≠ ((.slice Ao11 t286.length co11) : Value).ownBlock) v301 t300) ∧ Aside0 (Below w.heap.size w wc))
 case first =>
  have H := HC9.out
  clear HC9
  by_cases c16 : t290 = 0
  ·rw [if_pos c16] at H
   have c16b0 : (t290 == 0) = true := beq_iff_eq.mpr c16
   have c16b1 : (t290 != 0) = false := bne_eq_false_iff_eq.mpr c16
   clear c16
   (first | rw [c16b0] | (simp only [i64_w, i32_w]; rw [c16b0]) | skip)
   by_cases c17 : (t289.length : Int) = (t286.length : Int)
   ·rw [if_pos c17] at H
    have c17b0 : ((t289.length : Int) == (t286.length : Int)) = true := beq_iff_eq.mpr c17
    have c17b1 : ((t289.length : Int) != (t286.length : Int)) = false := bne_eq_false_iff_eq.mpr c17
    have c17b2 : (t289.length == t286.length) = true := by first | simpa using c17 | (simp at c17 ⊢; omega)
    clear c17
    by_cases c18 : t297 = 0
    ·rw [if_pos c18] at H
     have c18b0 : (t297 == 0) = true := beq_iff_eq.mpr c18
     have c18b1 : (t297 != 0) = false := bne_eq_false_iff_eq.mpr c18
     clear c18
     replace H := Option.bind_eq_some_iff.mp H
     obtain ⟨t303, A190, H⟩ := H
     replace H : (incipitlaw15_SuffixKinds.j0 k a2 t286 t289 t293 t300 (!t303)) = some r := H
     have A19 := Aside0.mk A190
     clear A190
     have H' := Aside0.mk H
     clear H
     obtain ⟨Ao20, co20, eo20⟩ := Kd.R_slice HO292.out
     subst eo20
     obtain ⟨Ao21, co21, eo21⟩ := Kd.R_slice HO299.out
     subst eo21
     obtain ⟨Ao22, co22, eo22⟩ := Kd.R_slice HO302.out
     subst eo22
     go_wp2_with (first | (go_at_call 17; (with_reducible refine (incipitref06_Same.calls k _ _ t296 _ _ t300 t303 _ ?side1 ?side2 ?side3 ?side4 A19.out).mono ?_); (case side1 => repeat (first | exact (Kd.R_reads' HO299.out).2.2 | (with_reducible refine Kd.C_alloc ?_ _) | (with_reducible refine Kd.C_drewN ?_ _) | (with_reducible refine Kd.C_drew ?_))); (case side2 => exact (Kd.R_reads' HO299.out).2.1); (case side3 => repeat (first | exact (Kd.R_reads' HO302.out).2.2 | (with_reducible refine Kd.C_alloc ?_ _) | (with_reducible refine Kd.C_drewN ?_ _) | (with_reducible refine Kd.C_drew ?_))); (case side4 => exact (Kd.R_reads' HO302.out).2.1); rintro e w' ⟨rfl, ⟨nd, rfl⟩⟩; (try first | exact ⟨rfl, _, World.drewN_drewN _ _ _⟩ | exact ⟨rfl, _, Eq.trans (World.drewN_drewN _ _ _) (congrArg (World.drewN _) (Nat.add_assoc _ _ _))⟩)))
     repeat (go_quiet (first | (go_at_call 17; (with_reducible refine (incipitref06_Same.calls k _ _ t296 _ _ t300 t303 _ ?side1 ?side2 ?side3 ?side4 A19.out).mono ?_); (case side1 => repeat (first | exact (Kd.R_reads' HO299.out).2.2 | (with_reducible refine Kd.C_alloc ?_ _) | (with_reducible refine Kd.C_drewN ?_ _) | (with_reducible refine Kd.C_drew ?_))); (case side2 => exact (Kd.R_reads' HO299.out).2.1); (case side3 => repeat (first | exact (Kd.R_reads' HO302.out).2.2 | (with_reducible refine Kd.C_alloc ?_ _) | (with_reducible refine Kd.C_drewN ?_ _) | (with_reducible refine Kd.C_drew ?_))); (case side4 => exact (Kd.R_reads' HO302.out).2.1); rintro e w' ⟨rfl, ⟨nd, rfl⟩⟩; (try first | exact ⟨rfl, _, World.drewN_drewN _ _ _⟩ | exact ⟨rfl, _, Eq.trans (World.drewN_drewN _ _ _) (congrArg (World.drewN _) (Nat.add_assoc _ _ _))⟩))); try go_wp2_with (first | (go_at_call 17; (with_reducible refine (incipitref06_Same.calls k _ _ t296 _ _ t300 t303 _ ?side1 ?side2 ?side3 ?side4 A19.out).mono ?_); (case side1 => repeat (first | exact (Kd.R_reads' HO299.out).2.2 | (with_reducible refine Kd.C_alloc ?_ _) | (with_reducible refine Kd.C_drewN ?_ _) | (with_reducible refine Kd.C_drew ?_))); (case side2 => exact (Kd.R_reads' HO299.out).2.1); (case side3 => repeat (first | exact (Kd.R_reads' HO302.out).2.2 | (with_reducible refine Kd.C_alloc ?_ _) | (with_reducible refine Kd.C_drewN ?_ _) | (with_reducible refine Kd.C_drew ?_))); (case side4 => exact (Kd.R_reads' HO302.out).2.1); rintro e w' ⟨rfl, ⟨nd, rfl⟩⟩; (try first | exact ⟨rfl, _, World.drewN_drewN _ _ _⟩ | exact ⟨rfl, _, Eq.trans (World.drewN_drewN _ _ _) (congrArg (World.drewN _) (Nat.add_assoc _ _ _))⟩))))
     go_meet
     case rel => exact ⟨_, (!t303), (by first | rfl | (simp; done) | (simp [*]; done)), H', ⟨by first | omega | exact Nat.le_refl _⟩, ⟨by (with_reducible repeat (first | apply Kd.R_alloc | apply Kd.R_drewN | apply Kd.R_drew)); exact Kd.R_mono HO288.out (fun _ hk => hk.2)⟩, ⟨by (with_reducible repeat (first | apply Kd.R_alloc | apply Kd.R_drewN | apply Kd.R_drew)); exact Kd.R_mono HO292.out (fun _ hk => hk.2)⟩, ⟨by (with_reducible repeat (first | apply Kd.R_alloc | apply Kd.R_drewN | apply Kd.R_drew)); exact Kd.R_mono HO295.out (fun _ hk => hk.2)⟩, ⟨by (with_reducible repeat (first | apply Kd.R_alloc | apply Kd.R_drewN | apply Kd.R_drew)); exact Kd.R_mono HO302.out (fun _ hk => hk.1.2)⟩, ⟨by repeat (first | (with_reducible first | exact HB.out | apply below_alloc | apply pw_below_drewN | apply below_drew1) | exact HB.out)⟩⟩
    ·rw [if_neg c18] at H
     have c18b0 : (t297 == 0) = false := beq_eq_false_iff_ne.mpr c18
     have c18b1 : (t297 != 0) = true := bne_iff_ne.mpr c18
     exact absurd (HR_.out ▸ H) (by generalize k = k_; cases k_ <;> simp [incipitlaw15_SuffixKinds.j0])
   ·rw [if_neg c17] at H
    have c17b0 : ((t289.length : Int) == (t286.length : Int)) = false := beq_eq_false_iff_ne.mpr c17
    have c17b1 : ((t289.length : Int) != (t286.length : Int)) = true := bne_iff_ne.mpr c17
    have c17b2 : (t289.length == t286.length) = false := by first | simpa using c17 | (simp at c17 ⊢; omega)
    exact absurd (HR_.out ▸ H) (by generalize k = k_; cases k_ <;> simp [incipitlaw15_SuffixKinds.j0])
  ·rw [if_neg c16] at H
   have c16b0 : (t290 == 0) = false := beq_eq_false_iff_ne.mpr c16
   have c16b1 : (t290 != 0) = true := bne_iff_ne.mpr c16
   (first | rw [c16b0] | (simp only [i64_w, i32_w]; rw [c16b0]) | skip)
   exact absurd (HR_.out ▸ H) (by generalize k = k_; cases k_ <;> simp [incipitlaw15_SuffixKinds.j0])
 case rest =>
  clear HC9
  try clear c1
  try clear p2
  try clear c5
  try clear c16
  try clear c16b0
  try clear c16b1
  try clear c17
  try clear c17b0
  try clear c17b1
  try clear c17b2
  try clear c18
  try clear c18b0
  try clear c18b1
  obtain ⟨kq, x54_8, rfl, HA, HJ8, HO_7, HO_8, HO_10, HO_13, HB⟩ := hcut
  cases kq with
  | zero => exact absurd HA.out (by simp [incipitlaw15_SuffixKinds.j0])
  | succ kj8 =>
   have H := HA.out
   clear HA
   simp only [incipitlaw15_SuffixKinds.j0] at H
   by_cases c23 : x54_8 = true
   ·subst c23
    have H1 : (some false) = some r := by rw [if_pos rfl] at H; exact H
    clear H
    have H := H1
    clear H1
    exact absurd (HR_.out ▸ H) (by simp)
   ·replace c23 := Bool.eq_false_iff.mpr c23
    subst c23
    have H1 : (incipitlaw15_SuffixKinds.l0 kj8 a2 t286 t289 t293 t300 0) = some r := by rw [if_neg (show ¬ (false = true) by decide)] at H; exact H
    clear H
    have H := H1
    clear H1
    have H' := Aside0.mk H
    clear H
    go_wp2
    repeat (go_quiet (fail); try go_wp2)
    go_loopg [14] kj8 (fun kq v14 w' => ∃ (x14_2 : Int), v14 = .int .i64 x14_2 ∧ Aside0 (incipitlaw15_SuffixKinds.l0 kq a2 t286 t289 t293 t300 x14_2 = some r) ∧ Aside0 (kq ≤ kj8) ∧ Aside0 (Kd.R (Kd.int .i64) 3 w' w.heap.size (fun k_ => some k_ ≠ (v301 : Value).ownBlock) (.slice Ao11 t286.length co11) t286) ∧ Aside0 (Kd.R Kd.bool 4 w' w.heap.size (fun k_ => some k_ ≠ (v294 : Value).ownBlock) v291 t289) ∧ Aside0 (Kd.R Kd.bool 4 w' w.heap.size (fun k_ => some k_ ≠ (v291 : Value).ownBlock) v294 t293) ∧ Aside0 (Kd.R (Kd.int .i64) 3 w' w.heap.size (fun k_ => some k_ ≠ ((.slice Ao11 t286.length co11) : Value).ownBlock) v301 t300) ∧ Aside0 (Below w.heap.size w w'))
    case atStart => exact ⟨(0), (by first | rfl | (simp; done) | (simp [*]; done)), H', ⟨Nat.le_refl _⟩, ⟨by (with_reducible repeat (first | apply Kd.R_alloc | apply Kd.R_drewN | apply Kd.R_drew)); exact HO_7.out⟩, ⟨by (with_reducible repeat (first | apply Kd.R_alloc | apply Kd.R_drewN | apply Kd.R_drew)); exact HO_8.out⟩, ⟨by (with_reducible repeat (first | apply Kd.R_alloc | apply Kd.R_drewN | apply Kd.R_drew)); exact HO_10.out⟩, ⟨by (with_reducible repeat (first | apply Kd.R_alloc | apply Kd.R_drewN | apply Kd.R_drew)); exact HO_13.out⟩, ⟨by repeat (first | (with_reducible first | exact HB.out | apply below_alloc | apply pw_below_drewN | apply below_drew1) | exact HB.out)⟩⟩
    case round =>
     clear H'
     try clear c1
     try clear c2
     try clear p2
     try clear c5
     try clear c16
     try clear c16b0
     try clear c16b1
     try clear c17
     try clear c17b0
     try clear c17b1
     try clear c17b2
     try clear c18
     try clear c18b0
     try clear c18b1
     try clear c23
     try clear p2
     obtain ⟨x14_2, rfl, HA, HK2, HO_7, HO_8, HO_10, HO_13, HB⟩ := hrel
     cases gk with
     | zero => exact absurd HA.out (by simp [incipitlaw15_SuffixKinds.l0])
     | succ k2 =>
      have H := HA.out
      clear HA
      simp only [incipitlaw15_SuffixKinds.l0] at H
      by_cases c24 : x14_2 < (t289.length : Int)
      ·rw [if_pos c24] at H
       have c24b0 : decide (x14_2 < (t289.length : Int)) = true := decide_eq_true c24
       clear c24
       by_cases c25 : 0 ≤ x14_2
       ·rw [if_pos c25] at H
        have c25b0 : decide (0 ≤ x14_2) = true := decide_eq_true c25
        clear c25
        by_cases c26 : x14_2 < (t293.length : Int)
        ·rw [if_pos c26] at H
         have c26b0 : decide (x14_2 < (t293.length : Int)) = true := decide_eq_true c26
         clear c26
         by_cases c27 : ((rdOf false t289 x14_2) != (rdOf false t293 x14_2)) = true
         ·rw [if_pos c27] at H
          have c27b0 : ((rdOf false t289 x14_2) != (rdOf false t293 x14_2)) = true := c27
          (try (have c27b1 : decide ((rdOf false t289 x14_2) = (rdOf false t293 x14_2)) = false := by simpa using c27))
          (try (have c27b2 : ((rdOf false t289 x14_2) == (rdOf false t293 x14_2)) = false := by simpa using c27))
          (try (have c27b3 : ¬ ((rdOf false t289 x14_2) = (rdOf false t293 x14_2)) := by simpa using c27))
          clear c27
          exact absurd (HR_.out ▸ H) (by simp)
         ·rw [if_neg c27] at H
          have c27b0 : ((rdOf false t289 x14_2) != (rdOf false t293 x14_2)) = false := by simpa using c27
          (try (have c27b1 : decide ((rdOf false t289 x14_2) = (rdOf false t293 x14_2)) = true := by simpa using c27))
          (try (have c27b2 : ((rdOf false t289 x14_2) == (rdOf false t293 x14_2)) = true := by simpa using c27))
          clear c27
          have H' := Aside0.mk H
          clear H
          obtain ⟨Ao28, co28, eo28⟩ := Kd.R_slice HO_8.out
          subst eo28
          have p304 : 0 ≤ (x14_2 : Int) := of_decide_eq_true (by first | (with_reducible assumption) | assumption)
          have q304 : x14_2 < (t289.length : Int) := of_decide_eq_true (by first | (with_reducible assumption) | assumption)
          obtain ⟨ad304, e304, hx304_0⟩ := Kd.at_bool (Kd.R_reads' HO_8.out).2.2 x14_2 p304 q304
          cases e304
          replace p304 := eq_true p304
          replace q304 := eq_true q304
          obtain ⟨Ao29, co29, eo29⟩ := Kd.R_slice HO_10.out
          subst eo29
          have p305 : 0 ≤ (x14_2 : Int) := of_decide_eq_true (by first | (with_reducible assumption) | assumption)
          have q305 : x14_2 < (t293.length : Int) := of_decide_eq_true (by first | (with_reducible assumption) | assumption)
          obtain ⟨ad305, e305, hx305_0⟩ := Kd.at_bool (Kd.R_reads' HO_10.out).2.2 x14_2 p305 q305
          cases e305
          replace p305 := eq_true p305
          replace q305 := eq_true q305
          go_wp2
          repeat (go_quiet (fail); try go_wp2)
          go_roundg k2
          case measure => have := HJ8.out; have := HK2.out; omega
          case rel => exact ⟨(wrap64 (x14_2 + 1)), (by first | rfl | (simp; done) | (simp [*]; done)), H', ⟨by have := HJ8.out; have := HK2.out; omega⟩, ⟨by (with_reducible repeat (first | apply Kd.R_alloc | apply Kd.R_drewN | apply Kd.R_drew)); exact HO_7.out⟩, ⟨by (with_reducible repeat (first | apply Kd.R_alloc | apply Kd.R_drewN | apply Kd.R_drew)); exact HO_8.out⟩, ⟨by (with_reducible repeat (first | apply Kd.R_alloc | apply Kd.R_drewN | apply Kd.R_drew)); exact HO_10.out⟩, ⟨by (with_reducible repeat (first | apply Kd.R_alloc | apply Kd.R_drewN | apply Kd.R_drew)); exact HO_13.out⟩, ⟨by repeat (first | (with_reducible first | exact HB.out | apply below_alloc | apply pw_below_drewN | apply below_drew1) | exact HB.out)⟩⟩
        ·rw [if_neg c26] at H
         exact absurd H (by simp)
       ·rw [if_neg c25] at H
        exact absurd H (by simp)
      ·rw [if_neg c24] at H
       have c24b0 : decide (x14_2 < (t289.length : Int)) = false := decide_eq_false c24
       clear c24
       by_cases c30 : (IntKind.u64.wrap ((t286.length : Int))) = 0
       ·rw [if_pos c30] at H
        exact absurd H (by simp)
       ·rw [if_neg c30] at H
        have c30b0 : ((IntKind.u64.wrap ((t286.length : Int))) == 0) = false := beq_eq_false_iff_ne.mpr c30
        have c30b1 : ((IntKind.u64.wrap ((t286.length : Int))) != 0) = true := bne_iff_ne.mpr c30
        replace H := Option.bind_eq_some_iff.mp H
        obtain ⟨⟨t306, t307⟩, A310, H⟩ := H
        replace H : (incipitlaw15_SuffixKinds.l1 k2 (wrap64 (Int.tmod (IntKind.u64.wrap (a2)) (IntKind.u64.wrap ((t286.length : Int))))) t286 t300 t306 t307 0) = some r := H
        have A31 := Aside0.mk A310
        clear A310
        have H' := Aside0.mk H
        clear H
        obtain ⟨Ao32, co32, eo32⟩ := Kd.R_slice HO_8.out
        subst eo32
        go_wp2_with (first | (go_at_call 25; (with_reducible refine (suffix_Piece.calls k2 _ _ t286 (wrap64 (Int.tmod (IntKind.u64.wrap (a2)) (IntKind.u64.wrap ((t286.length : Int))))) t306 t307 _ ?side1 ?side2 A31.out).mono ?_); (case side1 => repeat (first | exact (Kd.R_reads' HO_7.out).2.2 | (with_reducible refine Kd.C_alloc ?_ _) | (with_reducible refine Kd.C_drewN ?_ _) | (with_reducible refine Kd.C_drew ?_))); (case side2 => exact (Kd.R_reads' HO_7.out).2.1); rintro e w33 ⟨v308, rfl, ho0, hb⟩; have n0_ := Aside0.mk (Kd.R_elder' (by (with_reducible repeat (first | apply Kd.R_alloc | apply Kd.R_drewN | apply Kd.R_drew)); exact HO_7.out) (Kd.R_base ho0) hb); have n1_ := Aside0.mk (Kd.R_below (by (with_reducible repeat (first | apply Kd.R_alloc | apply Kd.R_drewN | apply Kd.R_drew)); exact HO_8.out) hb); have n2_ := Aside0.mk (Kd.R_below (by (with_reducible repeat (first | apply Kd.R_alloc | apply Kd.R_drewN | apply Kd.R_drew)); exact HO_10.out) hb); have n3_ := Aside0.mk (Kd.R_elder' (by (with_reducible repeat (first | apply Kd.R_alloc | apply Kd.R_drewN | apply Kd.R_drew)); exact HO_13.out) (Kd.R_base ho0) hb); have n4_ := Aside0.mk (Kd.R_lower (Kd.R_new' (Kd.R_new' ho0 (Kd.R_lt (by (with_reducible repeat (first | apply Kd.R_alloc | apply Kd.R_drewN | apply Kd.R_drew)); exact HO_7.out))) (Kd.R_lt (by (with_reducible repeat (first | apply Kd.R_alloc | apply Kd.R_drewN | apply Kd.R_drew)); exact HO_13.out))) (below_size (by repeat (first | (with_reducible first | exact HB.out | apply below_alloc | apply pw_below_drewN | apply below_drew1) | exact HB.out)))); have n5_ := Aside0.mk (below_step (by repeat (first | (with_reducible first | exact HB.out | apply below_alloc | apply pw_below_drewN | apply below_drew1) | exact HB.out)) hb); clear HO_7; clear HO_8; clear HO_10; clear HO_13; clear HB; have HO_7 := n0_; have HO_8 := n1_; have HO_10 := n2_; have HO_13 := n3_; have HO309 := n4_; have HB := n5_; clear n0_ n1_ n2_ n3_ n4_ n5_; (try clear hb); (try clear hb2); (try clear hk); (try clear hi); (try clear ho0)))
        repeat (go_quiet (first | (go_at_call 25; (with_reducible refine (suffix_Piece.calls k2 _ _ t286 (wrap64 (Int.tmod (IntKind.u64.wrap (a2)) (IntKind.u64.wrap ((t286.length : Int))))) t306 t307 _ ?side1 ?side2 A31.out).mono ?_); (case side1 => repeat (first | exact (Kd.R_reads' HO_7.out).2.2 | (with_reducible refine Kd.C_alloc ?_ _) | (with_reducible refine Kd.C_drewN ?_ _) | (with_reducible refine Kd.C_drew ?_))); (case side2 => exact (Kd.R_reads' HO_7.out).2.1); rintro e w33 ⟨v308, rfl, ho0, hb⟩; have n0_ := Aside0.mk (Kd.R_elder' (by (with_reducible repeat (first | apply Kd.R_alloc | apply Kd.R_drewN | apply Kd.R_drew)); exact HO_7.out) (Kd.R_base ho0) hb); have n1_ := Aside0.mk (Kd.R_below (by (with_reducible repeat (first | apply Kd.R_alloc | apply Kd.R_drewN | apply Kd.R_drew)); exact HO_8.out) hb); have n2_ := Aside0.mk (Kd.R_below (by (with_reducible repeat (first | apply Kd.R_alloc | apply Kd.R_drewN | apply Kd.R_drew)); exact HO_10.out) hb); have n3_ := Aside0.mk (Kd.R_elder' (by (with_reducible repeat (first | apply Kd.R_alloc | apply Kd.R_drewN | apply Kd.R_drew)); exact HO_13.out) (Kd.R_base ho0) hb); have n4_ := Aside0.mk (Kd.R_lower (Kd.R_new' (Kd.R_new' ho0 (Kd.R_lt (by (with_reducible repeat (first | apply Kd.R_alloc | apply Kd.R_drewN | apply Kd.R_drew)); exact HO_7.out))) (Kd.R_lt (by (with_reducible repeat (first | apply Kd.R_alloc | apply Kd.R_drewN | apply Kd.R_drew)); exact HO_13.out))) (below_size (by repeat (first | (with_reducible first | exact HB.out | apply below_alloc | apply pw_below_drewN | apply below_drew1) | exact HB.out)))); have n5_ := Aside0.mk (below_step (by repeat (first | (with_reducible first | exact HB.out | apply below_alloc | apply pw_below_drewN | apply below_drew1) | exact HB.out)) hb); clear HO_7; clear HO_8; clear HO_10; clear HO_13; clear HB; have HO_7 := n0_; have HO_8 := n1_; have HO_10 := n2_; have HO_13 := n3_; have HO309 := n4_; have HB := n5_; clear n0_ n1_ n2_ n3_ n4_ n5_; (try clear hb); (try clear hb2); (try clear hk); (try clear hi); (try clear ho0))); try go_wp2_with (first | (go_at_call 25; (with_reducible refine (suffix_Piece.calls k2 _ _ t286 (wrap64 (Int.tmod (IntKind.u64.wrap (a2)) (IntKind.u64.wrap ((t286.length : Int))))) t306 t307 _ ?side1 ?side2 A31.out).mono ?_); (case side1 => repeat (first | exact (Kd.R_reads' HO_7.out).2.2 | (with_reducible refine Kd.C_alloc ?_ _) | (with_reducible refine Kd.C_drewN ?_ _) | (with_reducible refine Kd.C_drew ?_))); (case side2 => exact (Kd.R_reads' HO_7.out).2.1); rintro e w33 ⟨v308, rfl, ho0, hb⟩; have n0_ := Aside0.mk (Kd.R_elder' (by (with_reducible repeat (first | apply Kd.R_alloc | apply Kd.R_drewN | apply Kd.R_drew)); exact HO_7.out) (Kd.R_base ho0) hb); have n1_ := Aside0.mk (Kd.R_below (by (with_reducible repeat (first | apply Kd.R_alloc | apply Kd.R_drewN | apply Kd.R_drew)); exact HO_8.out) hb); have n2_ := Aside0.mk (Kd.R_below (by (with_reducible repeat (first | apply Kd.R_alloc | apply Kd.R_drewN | apply Kd.R_drew)); exact HO_10.out) hb); have n3_ := Aside0.mk (Kd.R_elder' (by (with_reducible repeat (first | apply Kd.R_alloc | apply Kd.R_drewN | apply Kd.R_drew)); exact HO_13.out) (Kd.R_base ho0) hb); have n4_ := Aside0.mk (Kd.R_lower (Kd.R_new' (Kd.R_new' ho0 (Kd.R_lt (by (with_reducible repeat (first | apply Kd.R_alloc | apply Kd.R_drewN | apply Kd.R_drew)); exact HO_7.out))) (Kd.R_lt (by (with_reducible repeat (first | apply Kd.R_alloc | apply Kd.R_drewN | apply Kd.R_drew)); exact HO_13.out))) (below_size (by repeat (first | (with_reducible first | exact HB.out | apply below_alloc | apply pw_below_drewN | apply below_drew1) | exact HB.out)))); have n5_ := Aside0.mk (below_step (by repeat (first | (with_reducible first | exact HB.out | apply below_alloc | apply pw_below_drewN | apply below_drew1) | exact HB.out)) hb); clear HO_7; clear HO_8; clear HO_10; clear HO_13; clear HB; have HO_7 := n0_; have HO_8 := n1_; have HO_10 := n2_; have HO_13 := n3_; have HO309 := n4_; have HB := n5_; clear n0_ n1_ n2_ n3_ n4_ n5_; (try clear hb); (try clear hb2); (try clear hk); (try clear hi); (try clear ho0))))
        go_loopg [17] k2 (fun kq v17 w' => ∃ (x17_3 : Int), v17 = .int .i64 x17_3 ∧ Aside0 (incipitlaw15_SuffixKinds.l1 kq (wrap64 (Int.tmod (IntKind.u64.wrap (a2)) (IntKind.u64.wrap ((t286.length : Int))))) t286 t300 t306 t307 x17_3 = some r) ∧ Aside0 (kq ≤ k2) ∧ Aside0 (Kd.R (Kd.int .i64) 3 w' w.heap.size (fun k_ => some k_ ≠ (v301 : Value).ownBlock ∧ some k_ ≠ (v308 : Value).ownBlock) (.slice Ao11 t286.length co11) t286) ∧ Aside0 (Kd.R (Kd.int .i64) 3 w' w.heap.size (fun k_ => some k_ ≠ ((.slice Ao11 t286.length co11) : Value).ownBlock ∧ some k_ ≠ (v308 : Value).ownBlock) v301 t300) ∧ Aside0 (Kd.R (Kd.int .i64) 3 w' w.heap.size (fun k_ => some k_ ≠ ((.slice Ao11 t286.length co11) : Value).ownBlock ∧ some k_ ≠ (v301 : Value).ownBlock) v308 t306) ∧ Aside0 (Below w.heap.size w w'))
        case atStart => exact ⟨(0), (by first | rfl | (simp; done) | (simp [*]; done)), H', ⟨Nat.le_refl _⟩, ⟨by (with_reducible repeat (first | apply Kd.R_alloc | apply Kd.R_drewN | apply Kd.R_drew)); exact HO_7.out⟩, ⟨by (with_reducible repeat (first | apply Kd.R_alloc | apply Kd.R_drewN | apply Kd.R_drew)); exact HO_13.out⟩, ⟨by (with_reducible repeat (first | apply Kd.R_alloc | apply Kd.R_drewN | apply Kd.R_drew)); exact Kd.R_mono HO309.out (fun _ hk => ⟨hk.1.2, hk.2⟩)⟩, ⟨by repeat (first | (with_reducible first | exact HB.out | apply below_alloc | apply pw_below_drewN | apply below_drew1) | exact HB.out)⟩⟩
        case round =>
         clear H'
         try clear c1
         try clear c2
         try clear p2
         try clear c3
         try clear p3
         try clear q3
         try clear hx3
         try clear c5
         try clear p6
         try clear c16
         try clear c16b0
         try clear c16b1
         try clear c17
         try clear c17b0
         try clear c17b1
         try clear c17b2
         try clear c18
         try clear c18b0
         try clear c18b1
         try clear c23
         try clear c24
         try clear c24b0
         try clear c25
         try clear c25b0
         try clear c26
         try clear c26b0
         try clear c27
         try clear c27b0
         try clear c27b1
         try clear c27b2
         try clear c30
         try clear c30b0
         try clear c30b1
         try clear p30
         try clear q30
         try clear hx30
         try clear hx304_0
         try clear hx305_0
         try clear p2
         try clear p304
         try clear p305
         try clear q304
         try clear q305
         obtain ⟨x17_3, rfl, HA, HK3, HO_7, HO_13, HO_15, HB⟩ := hrel
         cases gk with
         | zero => exact absurd HA.out (by simp [incipitlaw15_SuffixKinds.l1])
         | succ k3 =>
          have H := HA.out
          clear HA
          simp only [incipitlaw15_SuffixKinds.l1] at H
          by_cases c34 : x17_3 < (t300.length : Int)
          ·rw [if_pos c34] at H
           have c34b0 : decide (x17_3 < (t300.length : Int)) = true := decide_eq_true c34
           clear c34
           by_cases c35 : 0 ≤ x17_3
           ·rw [if_pos c35] at H
            have c35b0 : decide (0 ≤ x17_3) = true := decide_eq_true c35
            clear c35
            by_cases c36 : (rd t300 x17_3) = (wrap64 (Int.tmod (IntKind.u64.wrap (a2)) (IntKind.u64.wrap ((t286.length : Int)))))
            ·rw [if_pos c36] at H
             have c36b0 : ((rd t300 x17_3) == (wrap64 (Int.tmod (IntKind.u64.wrap (a2)) (IntKind.u64.wrap ((t286.length : Int)))))) = true := beq_iff_eq.mpr c36
             have c36b1 : ((rd t300 x17_3) != (wrap64 (Int.tmod (IntKind.u64.wrap (a2)) (IntKind.u64.wrap ((t286.length : Int)))))) = false := bne_eq_false_iff_eq.mpr c36
             clear c36
             by_cases c37 : (wrap64 (x17_3 + 1)) < (t300.length : Int)
             ·rw [if_pos c37] at H
              have c37b0 : decide ((wrap64 (x17_3 + 1)) < (t300.length : Int)) = true := decide_eq_true c37
              clear c37
              obtain ⟨ji38, hji38⟩ : ∃ j_ : Int, (wrap64 (x17_3 + 1)) = j_ := ⟨_, rfl⟩
              replace H : (if 0 ≤ (ji38) then ((incipitlaw15_known.f k3).bind fun t313 => (if t313 = true then (if t307 = 0 then (if 0 ≤ (wrap64 (Int.tmod (IntKind.u64.wrap (a2)) (IntKind.u64.wrap ((t286.length : Int))))) then (if (wrap64 (Int.tmod (IntKind.u64.wrap (a2)) (IntKind.u64.wrap ((t286.length : Int))))) ≤ (wrap64 ((rd t300 (ji38)) + 1)) then (if (wrap64 ((rd t300 (ji38)) + 1)) ≤ (t286.length : Int) then ((incipitref06_Same.f k3 t306 ((t286.take ((wrap64 ((rd t300 (ji38)) + 1)) : Int).toNat).drop ((wrap64 (Int.tmod (IntKind.u64.wrap (a2)) (IntKind.u64.wrap ((t286.length : Int))))) : Int).toNat)).bind fun t318 => (some t318)) else (none)) else (none)) else (none)) else (some false)) else (some false))) else (none)) = some r := by first | (rw [hji38] at H; exact H) | (simp only [hji38] at H ⊢; exact H)
              (try rw [hji38] at c37b0)
              have hji38w : (IntKind.i64.wrap (x17_3 + 1)) = ji38 := (i64_w _).trans hji38
              by_cases c39 : 0 ≤ (ji38)
              ·rw [if_pos c39] at H
               have c39b0 : decide (0 ≤ (ji38)) = true := decide_eq_true c39
               clear c39
               replace H := Option.bind_eq_some_iff.mp H
               obtain ⟨t313, A400, H⟩ := H
               replace H : (if t313 = true then (if t307 = 0 then (if 0 ≤ (wrap64 (Int.tmod (IntKind.u64.wrap (a2)) (IntKind.u64.wrap ((t286.length : Int))))) then (if (wrap64 (Int.tmod (IntKind.u64.wrap (a2)) (IntKind.u64.wrap ((t286.length : Int))))) ≤ (wrap64 ((rd t300 (ji38)) + 1)) then (if (wrap64 ((rd t300 (ji38)) + 1)) ≤ (t286.length : Int) then ((incipitref06_Same.f k3 t306 ((t286.take ((wrap64 ((rd t300 (ji38)) + 1)) : Int).toNat).drop ((wrap64 (Int.tmod (IntKind.u64.wrap (a2)) (IntKind.u64.wrap ((t286.length : Int))))) : Int).toNat)).bind fun t318 => (some t318)) else (none)) else (none)) else (none)) else (some false)) else (some false)) = some r := H
               have A40 := Aside0.mk A400
               clear A400
               by_cases c41 : t313 = true
               ·subst c41
                have H1 : (if t307 = 0 then (if 0 ≤ (wrap64 (Int.tmod (IntKind.u64.wrap (a2)) (IntKind.u64.wrap ((t286.length : Int))))) then (if (wrap64 (Int.tmod (IntKind.u64.wrap (a2)) (IntKind.u64.wrap ((t286.length : Int))))) ≤ (wrap64 ((rd t300 (ji38)) + 1)) then (if (wrap64 ((rd t300 (ji38)) + 1)) ≤ (t286.length : Int) then ((incipitref06_Same.f k3 t306 ((t286.take ((wrap64 ((rd t300 (ji38)) + 1)) : Int).toNat).drop ((wrap64 (Int.tmod (IntKind.u64.wrap (a2)) (IntKind.u64.wrap ((t286.length : Int))))) : Int).toNat)).bind fun t318 => (some t318)) else (none)) else (none)) else (none)) else (some false)) = some r := by rw [if_pos rfl] at H; exact H
                clear H
                have H := H1
                clear H1
                by_cases c42 : t307 = 0
                ·rw [if_pos c42] at H
                 have c42b0 : (t307 == 0) = true := beq_iff_eq.mpr c42
                 have c42b1 : (t307 != 0) = false := bne_eq_false_iff_eq.mpr c42
                 clear c42
                 obtain ⟨ji43, hji43⟩ : ∃ j_ : Int, (wrap64 (Int.tmod (IntKind.u64.wrap (a2)) (IntKind.u64.wrap ((t286.length : Int))))) = j_ := ⟨_, rfl⟩
                 replace H : (if 0 ≤ (ji43) then (if (ji43) ≤ (wrap64 ((rd t300 (ji38)) + 1)) then (if (wrap64 ((rd t300 (ji38)) + 1)) ≤ (t286.length : Int) then ((incipitref06_Same.f k3 t306 ((t286.take ((wrap64 ((rd t300 (ji38)) + 1)) : Int).toNat).drop ((ji43) : Int).toNat)).bind fun t318 => (some t318)) else (none)) else (none)) else (none)) = some r := by first | (rw [hji43] at H; exact H) | (simp only [hji43] at H ⊢; exact H)
                 (try rw [hji43] at c36b0)
                 (try rw [hji43] at c36b1)
                 (try rw [hji43] at A40)
                 have hji43w : (IntKind.i64.wrap (Int.tmod (IntKind.u64.wrap (a2)) (IntKind.u64.wrap ((t286.length : Int))))) = ji43 := (i64_w _).trans hji43
                 by_cases c44 : 0 ≤ (ji43)
                 ·rw [if_pos c44] at H
                  have c44b0 := eq_true c44
                  have c44b1 : decide (0 ≤ (ji43)) = true := decide_eq_true c44
                  clear c44
                  by_cases c45 : (ji43) ≤ (wrap64 ((rd t300 (ji38)) + 1))
                  ·rw [if_pos c45] at H
                   have c45b0 := eq_true c45
                   have c45b1 : decide ((ji43) ≤ (wrap64 ((rd t300 (ji38)) + 1))) = true := decide_eq_true c45
                   by_cases c46 : (wrap64 ((rd t300 (ji38)) + 1)) ≤ (t286.length : Int)
                   ·rw [if_pos c46] at H
                    have c46b0 := eq_true c46
                    have c46b1 : decide ((wrap64 ((rd t300 (ji38)) + 1)) ≤ (t286.length : Int)) = true := decide_eq_true c46
                    obtain ⟨y314, hy314⟩ : ∃ y_ : List Int, y_ = ((t286.take ((wrap64 ((rd t300 (ji38)) + 1)) : Int).toNat).drop ((ji43) : Int).toNat) := ⟨_, rfl⟩
                    replace H : ((incipitref06_Same.f k3 t306 y314).bind fun t318 => (some t318)) = some r := by first | (rw [hy314]; with_reducible exact H) | (have H2_ := (Option.bind_some _ _).symm.trans H; rw [hy314]; with_reducible exact H2_) | (have H2_ := (Option.bind_some _ _).symm.trans H; with_reducible exact H2_) | with_reducible exact H | (rw [hy314]; exact H) | exact H
                    have Ny314 := Aside0.mk hy314
                    clear hy314
                    replace H := Option.bind_eq_some_iff.mp H
                    obtain ⟨t318, A470, H⟩ := H
                    replace H : (some t318) = some r := H
                    have A47 := Aside0.mk A470
                    clear A470
                    obtain rfl := Option.some.inj H
                    obtain ⟨Ao48, co48, eo48⟩ := Kd.R_slice HO_13.out
                    subst eo48
                    have p311 : 0 ≤ (x17_3 : Int) := of_decide_eq_true (by first | (with_reducible assumption) | assumption)
                    have q311 : x17_3 < (t300.length : Int) := of_decide_eq_true (by first | (with_reducible assumption) | assumption)
                    obtain ⟨ad311, e311, hx311_0⟩ := Kd.at_int (Kd.R_reads' HO_13.out).2.2 x17_3 p311 q311
                    cases e311
                    replace p311 := eq_true p311
                    replace q311 := eq_true q311
                    have p312 : 0 ≤ ((ji38) : Int) := of_decide_eq_true (by first | (with_reducible assumption) | assumption)
                    have q312 : (ji38) < (t300.length : Int) := of_decide_eq_true (by first | (with_reducible assumption) | assumption)
                    obtain ⟨ad312, e312, hx312_0⟩ := Kd.at_int (Kd.R_reads' HO_13.out).2.2 (ji38) p312 q312
                    obtain rfl : ad311 = ad312 := (by injection e312)
                    replace p312 := eq_true p312
                    replace q312 := eq_true q312
                    go_wp2_with (first | (go_at_call 16; (with_reducible refine (incipitlaw15_known.calls k3  true _ A40.out).mono ?_); rintro e w49 ⟨rfl, hb⟩; have n0_ := Aside0.mk (Kd.R_below (by (with_reducible repeat (first | apply Kd.R_alloc | apply Kd.R_drewN | apply Kd.R_drew)); exact HO_7.out) hb); have n1_ := Aside0.mk (Kd.R_below (by (with_reducible repeat (first | apply Kd.R_alloc | apply Kd.R_drewN | apply Kd.R_drew)); exact HO_13.out) hb); have n2_ := Aside0.mk (Kd.R_below (by (with_reducible repeat (first | apply Kd.R_alloc | apply Kd.R_drewN | apply Kd.R_drew)); exact HO_15.out) hb); have n3_ := Aside0.mk (below_step (by repeat (first | (with_reducible first | exact HB.out | apply below_alloc | apply pw_below_drewN | apply below_drew1) | exact HB.out)) hb); clear HO_7; clear HO_13; clear HO_15; clear HB; have HO_7 := n0_; have HO_13 := n1_; have HO_15 := n2_; have HB := n3_; clear n0_ n1_ n2_ n3_; (try clear hb); (try clear hb2); (try clear hk); (try clear hi); have q50 : ((wrap64 ((rd t300 (ji38)) + 1)) : Int) ≤ ((t286.length : Int) : Int) := of_decide_eq_true (by first | (with_reducible assumption) | assumption); obtain ⟨i050, hi050, _, hsz50, _⟩ := info_parts info3; have hroom50 : t286.length ≤ co11 := (Kd.R_reads' HO_7.out).2.1; have hC50 : Kd.C (Kd.int .i64) _ Ao11 t286.length t286 := (Kd.R_reads' HO_7.out).2.2; have ql50 : ((ji43) : Int) ≤ ((wrap64 ((rd t300 (ji38)) + 1)) : Int) := of_decide_eq_true (by first | (with_reducible assumption) | assumption); have q050 : (0 : Int) ≤ ((ji43) : Int) := of_decide_eq_true (by first | (with_reducible assumption) | assumption); have hcut50 := cut_mid (P := Try.prog) 22 3 .i64 .i64 Try.underlying22 hi050 1 hsz50 Ao11 t286.length co11 (ji43) (wrap64 ((rd t300 (ji38)) + 1)) q050 ql50 q50 hroom50; have hr50 := Kd.C_mid (lo := ((ji43) : Int).toNat) (hi := ((wrap64 ((rd t300 (ji38)) + 1)) : Int).toNat) (c := co11) hC50 (by omega) (by omega) hroom50; obtain ⟨A50, hA50⟩ : ∃ A1, A1 = (if co11 = ((ji43) : Int).toNat then Ao11 else (Ao11 : Option Addr).map (·.add (((ji43) : Int).toNat * 1))) := ⟨_, rfl⟩; obtain ⟨c50, hc50⟩ : ∃ c1, c1 = co11 - ((ji43) : Int).toNat := ⟨_, rfl⟩; have hy50 : y314.length = ((wrap64 ((rd t300 (ji38)) + 1)) : Int).toNat - ((ji43) : Int).toNat := (by rw [Ny314.out, List.length_drop, List.length_take] <;> omega); rw [show ((t286).take ((wrap64 ((rd t300 (ji38)) + 1)) : Int).toNat).drop ((ji43) : Int).toNat = y314 from Ny314.out.symm] at hr50; replace hr50 : Kd.C (Kd.int .i64) _ A50 y314.length y314 := (by rw [hA50]; exact hr50); rw [← hy50, ← hA50, ← hc50] at hcut50; have HR317 := Aside0.mk hr50; have HC317 := Aside0.mk (show y314.length ≤ c50 from by rw [hy50, hc50]; exact Nat.sub_le_sub_right (Nat.le_trans (by omega) hroom50) _); clear hr50 hC50 hroom50 hi050 hsz50 hc50; have KY50 := Aside0.mk hy50; have KA50 := Aside0.mk hA50; clear hy50 hA50; have KL50 := Aside0.mk (show ((wrap64 ((rd t300 (ji38)) + 1)) : Int).toNat ≤ t286.length from by omega); have KM50 := Aside0.mk (show ((ji43) : Int).toNat ≤ ((wrap64 ((rd t300 (ji38)) + 1)) : Int).toNat from by omega); replace q50 := eq_true q50; obtain ⟨Ao51, co51, eo51⟩ := Kd.R_slice HO_15.out; subst eo51) | (go_at_call 17; (with_reducible refine (incipitref06_Same.calls k3 _ _ t306 _ _ y314 t318 _ ?side1 ?side2 ?side3 ?side4 A47.out).mono ?_); (case side1 => repeat (first | exact (Kd.R_reads' HO_15.out).2.2 | (with_reducible refine Kd.C_alloc ?_ _) | (with_reducible refine Kd.C_drewN ?_ _) | (with_reducible refine Kd.C_drew ?_))); (case side2 => exact (Kd.R_reads' HO_15.out).2.1); (case side3 => repeat (first | exact (by repeat (first | (with_reducible exact HR317.out) | (with_reducible refine Kd.C_alloc ?_ _) | (with_reducible refine Kd.C_drewN ?_ _) | (with_reducible refine Kd.C_drew ?_) | exact HR317.out)) | (with_reducible refine Kd.C_alloc ?_ _) | (with_reducible refine Kd.C_drewN ?_ _) | (with_reducible refine Kd.C_drew ?_))); (case side4 => exact HC317.out); rintro e w' ⟨rfl, ⟨nd, rfl⟩⟩; (try first | exact ⟨rfl, _, World.drewN_drewN _ _ _⟩ | exact ⟨rfl, _, Eq.trans (World.drewN_drewN _ _ _) (congrArg (World.drewN _) (Nat.add_assoc _ _ _))⟩)))
                    repeat (go_quiet (first | (go_at_call 16; (with_reducible refine (incipitlaw15_known.calls k3  true _ A40.out).mono ?_); rintro e w49 ⟨rfl, hb⟩; have n0_ := Aside0.mk (Kd.R_below (by (with_reducible repeat (first | apply Kd.R_alloc | apply Kd.R_drewN | apply Kd.R_drew)); exact HO_7.out) hb); have n1_ := Aside0.mk (Kd.R_below (by (with_reducible repeat (first | apply Kd.R_alloc | apply Kd.R_drewN | apply Kd.R_drew)); exact HO_13.out) hb); have n2_ := Aside0.mk (Kd.R_below (by (with_reducible repeat (first | apply Kd.R_alloc | apply Kd.R_drewN | apply Kd.R_drew)); exact HO_15.out) hb); have n3_ := Aside0.mk (below_step (by repeat (first | (with_reducible first | exact HB.out | apply below_alloc | apply pw_below_drewN | apply below_drew1) | exact HB.out)) hb); clear HO_7; clear HO_13; clear HO_15; clear HB; have HO_7 := n0_; have HO_13 := n1_; have HO_15 := n2_; have HB := n3_; clear n0_ n1_ n2_ n3_; (try clear hb); (try clear hb2); (try clear hk); (try clear hi); have q50 : ((wrap64 ((rd t300 (ji38)) + 1)) : Int) ≤ ((t286.length : Int) : Int) := of_decide_eq_true (by first | (with_reducible assumption) | assumption); obtain ⟨i050, hi050, _, hsz50, _⟩ := info_parts info3; have hroom50 : t286.length ≤ co11 := (Kd.R_reads' HO_7.out).2.1; have hC50 : Kd.C (Kd.int .i64) _ Ao11 t286.length t286 := (Kd.R_reads' HO_7.out).2.2; have ql50 : ((ji43) : Int) ≤ ((wrap64 ((rd t300 (ji38)) + 1)) : Int) := of_decide_eq_true (by first | (with_reducible assumption) | assumption); have q050 : (0 : Int) ≤ ((ji43) : Int) := of_decide_eq_true (by first | (with_reducible assumption) | assumption); have hcut50 := cut_mid (P := Try.prog) 22 3 .i64 .i64 Try.underlying22 hi050 1 hsz50 Ao11 t286.length co11 (ji43) (wrap64 ((rd t300 (ji38)) + 1)) q050 ql50 q50 hroom50; have hr50 := Kd.C_mid (lo := ((ji43) : Int).toNat) (hi := ((wrap64 ((rd t300 (ji38)) + 1)) : Int).toNat) (c := co11) hC50 (by omega) (by omega) hroom50; obtain ⟨A50, hA50⟩ : ∃ A1, A1 = (if co11 = ((ji43) : Int).toNat then Ao11 else (Ao11 : Option Addr).map (·.add (((ji43) : Int).toNat * 1))) := ⟨_, rfl⟩; obtain ⟨c50, hc50⟩ : ∃ c1, c1 = co11 - ((ji43) : Int).toNat := ⟨_, rfl⟩; have hy50 : y314.length = ((wrap64 ((rd t300 (ji38)) + 1)) : Int).toNat - ((ji43) : Int).toNat := (by rw [Ny314.out, List.length_drop, List.length_take] <;> omega); rw [show ((t286).take ((wrap64 ((rd t300 (ji38)) + 1)) : Int).toNat).drop ((ji43) : Int).toNat = y314 from Ny314.out.symm] at hr50; replace hr50 : Kd.C (Kd.int .i64) _ A50 y314.length y314 := (by rw [hA50]; exact hr50); rw [← hy50, ← hA50, ← hc50] at hcut50; have HR317 := Aside0.mk hr50; have HC317 := Aside0.mk (show y314.length ≤ c50 from by rw [hy50, hc50]; exact Nat.sub_le_sub_right (Nat.le_trans (by omega) hroom50) _); clear hr50 hC50 hroom50 hi050 hsz50 hc50; have KY50 := Aside0.mk hy50; have KA50 := Aside0.mk hA50; clear hy50 hA50; have KL50 := Aside0.mk (show ((wrap64 ((rd t300 (ji38)) + 1)) : Int).toNat ≤ t286.length from by omega); have KM50 := Aside0.mk (show ((ji43) : Int).toNat ≤ ((wrap64 ((rd t300 (ji38)) + 1)) : Int).toNat from by omega); replace q50 := eq_true q50; obtain ⟨Ao51, co51, eo51⟩ := Kd.R_slice HO_15.out; subst eo51) | (go_at_call 17; (with_reducible refine (incipitref06_Same.calls k3 _ _ t306 _ _ y314 t318 _ ?side1 ?side2 ?side3 ?side4 A47.out).mono ?_); (case side1 => repeat (first | exact (Kd.R_reads' HO_15.out).2.2 | (with_reducible refine Kd.C_alloc ?_ _) | (with_reducible refine Kd.C_drewN ?_ _) | (with_reducible refine Kd.C_drew ?_))); (case side2 => exact (Kd.R_reads' HO_15.out).2.1); (case side3 => repeat (first | exact (by repeat (first | (with_reducible exact HR317.out) | (with_reducible refine Kd.C_alloc ?_ _) | (with_reducible refine Kd.C_drewN ?_ _) | (with_reducible refine Kd.C_drew ?_) | exact HR317.out)) | (with_reducible refine Kd.C_alloc ?_ _) | (with_reducible refine Kd.C_drewN ?_ _) | (with_reducible refine Kd.C_drew ?_))); (case side4 => exact HC317.out); rintro e w' ⟨rfl, ⟨nd, rfl⟩⟩; (try first | exact ⟨rfl, _, World.drewN_drewN _ _ _⟩ | exact ⟨rfl, _, Eq.trans (World.drewN_drewN _ _ _) (congrArg (World.drewN _) (Nat.add_assoc _ _ _))⟩))); try go_wp2_with (first | (go_at_call 16; (with_reducible refine (incipitlaw15_known.calls k3  true _ A40.out).mono ?_); rintro e w49 ⟨rfl, hb⟩; have n0_ := Aside0.mk (Kd.R_below (by (with_reducible repeat (first | apply Kd.R_alloc | apply Kd.R_drewN | apply Kd.R_drew)); exact HO_7.out) hb); have n1_ := Aside0.mk (Kd.R_below (by (with_reducible repeat (first | apply Kd.R_alloc | apply Kd.R_drewN | apply Kd.R_drew)); exact HO_13.out) hb); have n2_ := Aside0.mk (Kd.R_below (by (with_reducible repeat (first | apply Kd.R_alloc | apply Kd.R_drewN | apply Kd.R_drew)); exact HO_15.out) hb); have n3_ := Aside0.mk (below_step (by repeat (first | (with_reducible first | exact HB.out | apply below_alloc | apply pw_below_drewN | apply below_drew1) | exact HB.out)) hb); clear HO_7; clear HO_13; clear HO_15; clear HB; have HO_7 := n0_; have HO_13 := n1_; have HO_15 := n2_; have HB := n3_; clear n0_ n1_ n2_ n3_; (try clear hb); (try clear hb2); (try clear hk); (try clear hi); have q50 : ((wrap64 ((rd t300 (ji38)) + 1)) : Int) ≤ ((t286.length : Int) : Int) := of_decide_eq_true (by first | (with_reducible assumption) | assumption); obtain ⟨i050, hi050, _, hsz50, _⟩ := info_parts info3; have hroom50 : t286.length ≤ co11 := (Kd.R_reads' HO_7.out).2.1; have hC50 : Kd.C (Kd.int .i64) _ Ao11 t286.length t286 := (Kd.R_reads' HO_7.out).2.2; have ql50 : ((ji43) : Int) ≤ ((wrap64 ((rd t300 (ji38)) + 1)) : Int) := of_decide_eq_true (by first | (with_reducible assumption) | assumption); have q050 : (0 : Int) ≤ ((ji43) : Int) := of_decide_eq_true (by first | (with_reducible assumption) | assumption); have hcut50 := cut_mid (P := Try.prog) 22 3 .i64 .i64 Try.underlying22 hi050 1 hsz50 Ao11 t286.length co11 (ji43) (wrap64 ((rd t300 (ji38)) + 1)) q050 ql50 q50 hroom50; have hr50 := Kd.C_mid (lo := ((ji43) : Int).toNat) (hi := ((wrap64 ((rd t300 (ji38)) + 1)) : Int).toNat) (c := co11) hC50 (by omega) (by omega) hroom50; obtain ⟨A50, hA50⟩ : ∃ A1, A1 = (if co11 = ((ji43) : Int).toNat then Ao11 else (Ao11 : Option Addr).map (·.add (((ji43) : Int).toNat * 1))) := ⟨_, rfl⟩; obtain ⟨c50, hc50⟩ : ∃ c1, c1 = co11 - ((ji43) : Int).toNat := ⟨_, rfl⟩; have hy50 : y314.length = ((wrap64 ((rd t300 (ji38)) + 1)) : Int).toNat - ((ji43) : Int).toNat := (by rw [Ny314.out, List.length_drop, List.length_take] <;> omega); rw [show ((t286).take ((wrap64 ((rd t300 (ji38)) + 1)) : Int).toNat).drop ((ji43) : Int).toNat = y314 from Ny314.out.symm] at hr50; replace hr50 : Kd.C (Kd.int .i64) _ A50 y314.length y314 := (by rw [hA50]; exact hr50); rw [← hy50, ← hA50, ← hc50] at hcut50; have HR317 := Aside0.mk hr50; have HC317 := Aside0.mk (show y314.length ≤ c50 from by rw [hy50, hc50]; exact Nat.sub_le_sub_right (Nat.le_trans (by omega) hroom50) _); clear hr50 hC50 hroom50 hi050 hsz50 hc50; have KY50 := Aside0.mk hy50; have KA50 := Aside0.mk hA50; clear hy50 hA50; have KL50 := Aside0.mk (show ((wrap64 ((rd t300 (ji38)) + 1)) : Int).toNat ≤ t286.length from by omega); have KM50 := Aside0.mk (show ((ji43) : Int).toNat ≤ ((wrap64 ((rd t300 (ji38)) + 1)) : Int).toNat from by omega); replace q50 := eq_true q50; obtain ⟨Ao51, co51, eo51⟩ := Kd.R_slice HO_15.out; subst eo51) | (go_at_call 17; (with_reducible refine (incipitref06_Same.calls k3 _ _ t306 _ _ y314 t318 _ ?side1 ?side2 ?side3 ?side4 A47.out).mono ?_); (case side1 => repeat (first | exact (Kd.R_reads' HO_15.out).2.2 | (with_reducible refine Kd.C_alloc ?_ _) | (with_reducible refine Kd.C_drewN ?_ _) | (with_reducible refine Kd.C_drew ?_))); (case side2 => exact (Kd.R_reads' HO_15.out).2.1); (case side3 => repeat (first | exact (by repeat (first | (with_reducible exact HR317.out) | (with_reducible refine Kd.C_alloc ?_ _) | (with_reducible refine Kd.C_drewN ?_ _) | (with_reducible refine Kd.C_drew ?_) | exact HR317.out)) | (with_reducible refine Kd.C_alloc ?_ _) | (with_reducible refine Kd.C_drewN ?_ _) | (with_reducible refine Kd.C_drew ?_))); (case side4 => exact HC317.out); rintro e w' ⟨rfl, ⟨nd, rfl⟩⟩; (try first | exact ⟨rfl, _, World.drewN_drewN _ _ _⟩ | exact ⟨rfl, _, Eq.trans (World.drewN_drewN _ _ _) (congrArg (World.drewN _) (Nat.add_assoc _ _ _))⟩))))
                    go_ret
                    exact ⟨by first | rfl | (simp [errW_none, errW_some] <;> rfl) | (simp only [← hji38, ← hji43]; first | rfl | (simp [errW_none, errW_some] <;> rfl)) | (simp [*, errW_none, errW_some] <;> rfl), by repeat (first | (with_reducible first | exact HB.out | apply below_alloc | apply pw_below_drewN | apply below_drew1) | exact HB.out)⟩
                   ·rw [if_neg c46] at H
                    exact absurd H (by simp)
                  ·rw [if_neg c45] at H
                   exact absurd H (by simp)
                 ·rw [if_neg c44] at H
                  exact absurd H (by simp)
                ·rw [if_neg c42] at H
                 have c42b0 : (t307 == 0) = false := beq_eq_false_iff_ne.mpr c42
                 have c42b1 : (t307 != 0) = true := bne_iff_ne.mpr c42
                 exact absurd (HR_.out ▸ H) (by simp)
               ·replace c41 := Bool.eq_false_iff.mpr c41
                subst c41
                have H1 : (some false) = some r := by rw [if_neg (show ¬ (false = true) by decide)] at H; exact H
                clear H
                have H := H1
                clear H1
                exact absurd (HR_.out ▸ H) (by simp)
              ·rw [if_neg c39] at H
               exact absurd H (by simp)
             ·rw [if_neg c37] at H
              have c37b0 : decide ((wrap64 (x17_3 + 1)) < (t300.length : Int)) = false := decide_eq_false c37
              clear c37
              replace H := Option.bind_eq_some_iff.mp H
              obtain ⟨t319, A520, H⟩ := H
              replace H : (if t319 = true then (if t307 = 0 then (if 0 ≤ (wrap64 (Int.tmod (IntKind.u64.wrap (a2)) (IntKind.u64.wrap ((t286.length : Int))))) then (if (wrap64 (Int.tmod (IntKind.u64.wrap (a2)) (IntKind.u64.wrap ((t286.length : Int))))) ≤ (t286.length : Int) then (if (t286.length : Int) ≤ (t286.length : Int) then ((incipitref06_Same.f k3 t306 ((t286.take ((t286.length : Int) : Int).toNat).drop ((wrap64 (Int.tmod (IntKind.u64.wrap (a2)) (IntKind.u64.wrap ((t286.length : Int))))) : Int).toNat)).bind fun t324 => (some t324)) else (none)) else (none)) else (none)) else (some false)) else (some false)) = some r := H
              have A52 := Aside0.mk A520
              clear A520
              by_cases c53 : t319 = true
              ·subst c53
               have H1 : (if t307 = 0 then (if 0 ≤ (wrap64 (Int.tmod (IntKind.u64.wrap (a2)) (IntKind.u64.wrap ((t286.length : Int))))) then (if (wrap64 (Int.tmod (IntKind.u64.wrap (a2)) (IntKind.u64.wrap ((t286.length : Int))))) ≤ (t286.length : Int) then (if (t286.length : Int) ≤ (t286.length : Int) then ((incipitref06_Same.f k3 t306 ((t286.take ((t286.length : Int) : Int).toNat).drop ((wrap64 (Int.tmod (IntKind.u64.wrap (a2)) (IntKind.u64.wrap ((t286.length : Int))))) : Int).toNat)).bind fun t324 => (some t324)) else (none)) else (none)) else (none)) else (some false)) = some r := by rw [if_pos rfl] at H; exact H
               clear H
               have H := H1
               clear H1
               by_cases c54 : t307 = 0
               ·rw [if_pos c54] at H
                have c54b0 : (t307 == 0) = true := beq_iff_eq.mpr c54
                have c54b1 : (t307 != 0) = false := bne_eq_false_iff_eq.mpr c54
                clear c54
                obtain ⟨ji55, hji55⟩ : ∃ j_ : Int, (wrap64 (Int.tmod (IntKind.u64.wrap (a2)) (IntKind.u64.wrap ((t286.length : Int))))) = j_ := ⟨_, rfl⟩
                replace H : (if 0 ≤ (ji55) then (if (ji55) ≤ (t286.length : Int) then (if (t286.length : Int) ≤ (t286.length : Int) then ((incipitref06_Same.f k3 t306 ((t286.take ((t286.length : Int) : Int).toNat).drop ((ji55) : Int).toNat)).bind fun t324 => (some t324)) else (none)) else (none)) else (none)) = some r := by first | (rw [hji55] at H; exact H) | (simp only [hji55] at H ⊢; exact H)
                (try rw [hji55] at c36b0)
                (try rw [hji55] at c36b1)
                (try rw [hji55] at A52)
                have hji55w : (IntKind.i64.wrap (Int.tmod (IntKind.u64.wrap (a2)) (IntKind.u64.wrap ((t286.length : Int))))) = ji55 := (i64_w _).trans hji55
                by_cases c56 : 0 ≤ (ji55)
                ·rw [if_pos c56] at H
                 have c56b0 := eq_true c56
                 have c56b1 : decide (0 ≤ (ji55)) = true := decide_eq_true c56
                 clear c56
                 by_cases c57 : (ji55) ≤ (t286.length : Int)
                 ·rw [if_pos c57] at H
                  have c57b0 := eq_true c57
                  have c57b1 : decide ((ji55) ≤ (t286.length : Int)) = true := decide_eq_true c57
                  clear c57
                  by_cases c58 : (t286.length : Int) ≤ (t286.length : Int)
                  ·rw [if_pos c58] at H
                   have c58b0 := eq_true c58
                   have c58b1 : decide ((t286.length : Int) ≤ (t286.length : Int)) = true := decide_eq_true c58
                   clear c58
                   obtain ⟨y320, hy320⟩ : ∃ y_ : List Int, y_ = ((t286.take ((t286.length : Int) : Int).toNat).drop ((ji55) : Int).toNat) := ⟨_, rfl⟩
                   replace H : ((incipitref06_Same.f k3 t306 y320).bind fun t324 => (some t324)) = some r := by first | (rw [hy320]; with_reducible exact H) | (have H2_ := (Option.bind_some _ _).symm.trans H; rw [hy320]; with_reducible exact H2_) | (have H2_ := (Option.bind_some _ _).symm.trans H; with_reducible exact H2_) | with_reducible exact H | (rw [hy320]; exact H) | exact H
                   have Ny320 := Aside0.mk hy320
                   clear hy320
                   replace H := Option.bind_eq_some_iff.mp H
                   obtain ⟨t324, A590, H⟩ := H
                   replace H : (some t324) = some r := H
                   have A59 := Aside0.mk A590
                   clear A590
                   obtain rfl := Option.some.inj H
                   obtain ⟨Ao60, co60, eo60⟩ := Kd.R_slice HO_13.out
                   subst eo60
                   have p311 : 0 ≤ (x17_3 : Int) := of_decide_eq_true (by first | (with_reducible assumption) | assumption)
                   have q311 : x17_3 < (t300.length : Int) := of_decide_eq_true (by first | (with_reducible assumption) | assumption)
                   obtain ⟨ad311, e311, hx311_0⟩ := Kd.at_int (Kd.R_reads' HO_13.out).2.2 x17_3 p311 q311
                   cases e311
                   replace p311 := eq_true p311
                   replace q311 := eq_true q311
                   go_wp2_with (first | (go_at_call 16; (with_reducible refine (incipitlaw15_known.calls k3  true _ A52.out).mono ?_); rintro e w61 ⟨rfl, hb⟩; have n0_ := Aside0.mk (Kd.R_below (by (with_reducible repeat (first | apply Kd.R_alloc | apply Kd.R_drewN | apply Kd.R_drew)); exact HO_7.out) hb); have n1_ := Aside0.mk (Kd.R_below (by (with_reducible repeat (first | apply Kd.R_alloc | apply Kd.R_drewN | apply Kd.R_drew)); exact HO_13.out) hb); have n2_ := Aside0.mk (Kd.R_below (by (with_reducible repeat (first | apply Kd.R_alloc | apply Kd.R_drewN | apply Kd.R_drew)); exact HO_15.out) hb); have n3_ := Aside0.mk (below_step (by repeat (first | (with_reducible first | exact HB.out | apply below_alloc | apply pw_below_drewN | apply below_drew1) | exact HB.out)) hb); clear HO_7; clear HO_13; clear HO_15; clear HB; have HO_7 := n0_; have HO_13 := n1_; have HO_15 := n2_; have HB := n3_; clear n0_ n1_ n2_ n3_; (try clear hb); (try clear hb2); (try clear hk); (try clear hi); have q62 : ((t286.length : Int) : Int) ≤ ((t286.length : Int) : Int) := of_decide_eq_true (by first | (with_reducible assumption) | assumption); obtain ⟨i062, hi062, _, hsz62, _⟩ := info_parts info3; have hroom62 : t286.length ≤ co11 := (Kd.R_reads' HO_7.out).2.1; have hC62 : Kd.C (Kd.int .i64) _ Ao11 t286.length t286 := (Kd.R_reads' HO_7.out).2.2; have ql62 : ((ji55) : Int) ≤ ((t286.length : Int) : Int) := of_decide_eq_true (by first | (with_reducible assumption) | assumption); have q062 : (0 : Int) ≤ ((ji55) : Int) := of_decide_eq_true (by first | (with_reducible assumption) | assumption); have hcut62 := cut_mid (P := Try.prog) 22 3 .i64 .i64 Try.underlying22 hi062 1 hsz62 Ao11 t286.length co11 (ji55) (t286.length : Int) q062 ql62 q62 hroom62; have hr62 := Kd.C_mid (lo := ((ji55) : Int).toNat) (hi := ((t286.length : Int) : Int).toNat) (c := co11) hC62 (by omega) (by omega) hroom62; obtain ⟨A62, hA62⟩ : ∃ A1, A1 = (if co11 = ((ji55) : Int).toNat then Ao11 else (Ao11 : Option Addr).map (·.add (((ji55) : Int).toNat * 1))) := ⟨_, rfl⟩; obtain ⟨c62, hc62⟩ : ∃ c1, c1 = co11 - ((ji55) : Int).toNat := ⟨_, rfl⟩; have hy62 : y320.length = ((t286.length : Int) : Int).toNat - ((ji55) : Int).toNat := (by rw [Ny320.out, List.length_drop, List.length_take] <;> omega); rw [show ((t286).take ((t286.length : Int) : Int).toNat).drop ((ji55) : Int).toNat = y320 from Ny320.out.symm] at hr62; replace hr62 : Kd.C (Kd.int .i64) _ A62 y320.length y320 := (by rw [hA62]; exact hr62); rw [← hy62, ← hA62, ← hc62] at hcut62; have HR323 := Aside0.mk hr62; have HC323 := Aside0.mk (show y320.length ≤ c62 from by rw [hy62, hc62]; exact Nat.sub_le_sub_right (Nat.le_trans (by omega) hroom62) _); clear hr62 hC62 hroom62 hi062 hsz62 hc62; have KY62 := Aside0.mk hy62; have KA62 := Aside0.mk hA62; clear hy62 hA62; have KL62 := Aside0.mk (show ((t286.length : Int) : Int).toNat ≤ t286.length from by omega); have KM62 := Aside0.mk (show ((ji55) : Int).toNat ≤ ((t286.length : Int) : Int).toNat from by omega); replace q62 := eq_true q62; obtain ⟨Ao63, co63, eo63⟩ := Kd.R_slice HO_15.out; subst eo63) | (go_at_call 17; (with_reducible refine (incipitref06_Same.calls k3 _ _ t306 _ _ y320 t324 _ ?side1 ?side2 ?side3 ?side4 A59.out).mono ?_); (case side1 => repeat (first | exact (Kd.R_reads' HO_15.out).2.2 | (with_reducible refine Kd.C_alloc ?_ _) | (with_reducible refine Kd.C_drewN ?_ _) | (with_reducible refine Kd.C_drew ?_))); (case side2 => exact (Kd.R_reads' HO_15.out).2.1); (case side3 => repeat (first | exact (by repeat (first | (with_reducible exact HR323.out) | (with_reducible refine Kd.C_alloc ?_ _) | (with_reducible refine Kd.C_drewN ?_ _) | (with_reducible refine Kd.C_drew ?_) | exact HR323.out)) | (with_reducible refine Kd.C_alloc ?_ _) | (with_reducible refine Kd.C_drewN ?_ _) | (with_reducible refine Kd.C_drew ?_))); (case side4 => exact HC323.out); rintro e w' ⟨rfl, ⟨nd, rfl⟩⟩; (try first | exact ⟨rfl, _, World.drewN_drewN _ _ _⟩ | exact ⟨rfl, _, Eq.trans (World.drewN_drewN _ _ _) (congrArg (World.drewN _) (Nat.add_assoc _ _ _))⟩)))
                   repeat (go_quiet (first | (go_at_call 16; (with_reducible refine (incipitlaw15_known.calls k3  true _ A52.out).mono ?_); rintro e w61 ⟨rfl, hb⟩; have n0_ := Aside0.mk (Kd.R_below (by (with_reducible repeat (first | apply Kd.R_alloc | apply Kd.R_drewN | apply Kd.R_drew)); exact HO_7.out) hb); have n1_ := Aside0.mk (Kd.R_below (by (with_reducible repeat (first | apply Kd.R_alloc | apply Kd.R_drewN | apply Kd.R_drew)); exact HO_13.out) hb); have n2_ := Aside0.mk (Kd.R_below (by (with_reducible repeat (first | apply Kd.R_alloc | apply Kd.R_drewN | apply Kd.R_drew)); exact HO_15.out) hb); have n3_ := Aside0.mk (below_step (by repeat (first | (with_reducible first | exact HB.out | apply below_alloc | apply pw_below_drewN | apply below_drew1) | exact HB.out)) hb); clear HO_7; clear HO_13; clear HO_15; clear HB; have HO_7 := n0_; have HO_13 := n1_; have HO_15 := n2_; have HB := n3_; clear n0_ n1_ n2_ n3_; (try clear hb); (try clear hb2); (try clear hk); (try clear hi); have q62 : ((t286.length : Int) : Int) ≤ ((t286.length : Int) : Int) := of_decide_eq_true (by first | (with_reducible assumption) | assumption); obtain ⟨i062, hi062, _, hsz62, _⟩ := info_parts info3; have hroom62 : t286.length ≤ co11 := (Kd.R_reads' HO_7.out).2.1; have hC62 : Kd.C (Kd.int .i64) _ Ao11 t286.length t286 := (Kd.R_reads' HO_7.out).2.2; have ql62 : ((ji55) : Int) ≤ ((t286.length : Int) : Int) := of_decide_eq_true (by first | (with_reducible assumption) | assumption); have q062 : (0 : Int) ≤ ((ji55) : Int) := of_decide_eq_true (by first | (with_reducible assumption) | assumption); have hcut62 := cut_mid (P := Try.prog) 22 3 .i64 .i64 Try.underlying22 hi062 1 hsz62 Ao11 t286.length co11 (ji55) (t286.length : Int) q062 ql62 q62 hroom62; have hr62 := Kd.C_mid (lo := ((ji55) : Int).toNat) (hi := ((t286.length : Int) : Int).toNat) (c := co11) hC62 (by omega) (by omega) hroom62; obtain ⟨A62, hA62⟩ : ∃ A1, A1 = (if co11 = ((ji55) : Int).toNat then Ao11 else (Ao11 : Option Addr).map (·.add (((ji55) : Int).toNat * 1))) := ⟨_, rfl⟩; obtain ⟨c62, hc62⟩ : ∃ c1, c1 = co11 - ((ji55) : Int).toNat := ⟨_, rfl⟩; have hy62 : y320.length = ((t286.length : Int) : Int).toNat - ((ji55) : Int).toNat := (by rw [Ny320.out, List.length_drop, List.length_take] <;> omega); rw [show ((t286).take ((t286.length : Int) : Int).toNat).drop ((ji55) : Int).toNat = y320 from Ny320.out.symm] at hr62; replace hr62 : Kd.C (Kd.int .i64) _ A62 y320.length y320 := (by rw [hA62]; exact hr62); rw [← hy62, ← hA62, ← hc62] at hcut62; have HR323 := Aside0.mk hr62; have HC323 := Aside0.mk (show y320.length ≤ c62 from by rw [hy62, hc62]; exact Nat.sub_le_sub_right (Nat.le_trans (by omega) hroom62) _); clear hr62 hC62 hroom62 hi062 hsz62 hc62; have KY62 := Aside0.mk hy62; have KA62 := Aside0.mk hA62; clear hy62 hA62; have KL62 := Aside0.mk (show ((t286.length : Int) : Int).toNat ≤ t286.length from by omega); have KM62 := Aside0.mk (show ((ji55) : Int).toNat ≤ ((t286.length : Int) : Int).toNat from by omega); replace q62 := eq_true q62; obtain ⟨Ao63, co63, eo63⟩ := Kd.R_slice HO_15.out; subst eo63) | (go_at_call 17; (with_reducible refine (incipitref06_Same.calls k3 _ _ t306 _ _ y320 t324 _ ?side1 ?side2 ?side3 ?side4 A59.out).mono ?_); (case side1 => repeat (first | exact (Kd.R_reads' HO_15.out).2.2 | (with_reducible refine Kd.C_alloc ?_ _) | (with_reducible refine Kd.C_drewN ?_ _) | (with_reducible refine Kd.C_drew ?_))); (case side2 => exact (Kd.R_reads' HO_15.out).2.1); (case side3 => repeat (first | exact (by repeat (first | (with_reducible exact HR323.out) | (with_reducible refine Kd.C_alloc ?_ _) | (with_reducible refine Kd.C_drewN ?_ _) | (with_reducible refine Kd.C_drew ?_) | exact HR323.out)) | (with_reducible refine Kd.C_alloc ?_ _) | (with_reducible refine Kd.C_drewN ?_ _) | (with_reducible refine Kd.C_drew ?_))); (case side4 => exact HC323.out); rintro e w' ⟨rfl, ⟨nd, rfl⟩⟩; (try first | exact ⟨rfl, _, World.drewN_drewN _ _ _⟩ | exact ⟨rfl, _, Eq.trans (World.drewN_drewN _ _ _) (congrArg (World.drewN _) (Nat.add_assoc _ _ _))⟩))); try go_wp2_with (first | (go_at_call 16; (with_reducible refine (incipitlaw15_known.calls k3  true _ A52.out).mono ?_); rintro e w61 ⟨rfl, hb⟩; have n0_ := Aside0.mk (Kd.R_below (by (with_reducible repeat (first | apply Kd.R_alloc | apply Kd.R_drewN | apply Kd.R_drew)); exact HO_7.out) hb); have n1_ := Aside0.mk (Kd.R_below (by (with_reducible repeat (first | apply Kd.R_alloc | apply Kd.R_drewN | apply Kd.R_drew)); exact HO_13.out) hb); have n2_ := Aside0.mk (Kd.R_below (by (with_reducible repeat (first | apply Kd.R_alloc | apply Kd.R_drewN | apply Kd.R_drew)); exact HO_15.out) hb); have n3_ := Aside0.mk (below_step (by repeat (first | (with_reducible first | exact HB.out | apply below_alloc | apply pw_below_drewN | apply below_drew1) | exact HB.out)) hb); clear HO_7; clear HO_13; clear HO_15; clear HB; have HO_7 := n0_; have HO_13 := n1_; have HO_15 := n2_; have HB := n3_; clear n0_ n1_ n2_ n3_; (try clear hb); (try clear hb2); (try clear hk); (try clear hi); have q62 : ((t286.length : Int) : Int) ≤ ((t286.length : Int) : Int) := of_decide_eq_true (by first | (with_reducible assumption) | assumption); obtain ⟨i062, hi062, _, hsz62, _⟩ := info_parts info3; have hroom62 : t286.length ≤ co11 := (Kd.R_reads' HO_7.out).2.1; have hC62 : Kd.C (Kd.int .i64) _ Ao11 t286.length t286 := (Kd.R_reads' HO_7.out).2.2; have ql62 : ((ji55) : Int) ≤ ((t286.length : Int) : Int) := of_decide_eq_true (by first | (with_reducible assumption) | assumption); have q062 : (0 : Int) ≤ ((ji55) : Int) := of_decide_eq_true (by first | (with_reducible assumption) | assumption); have hcut62 := cut_mid (P := Try.prog) 22 3 .i64 .i64 Try.underlying22 hi062 1 hsz62 Ao11 t286.length co11 (ji55) (t286.length : Int) q062 ql62 q62 hroom62; have hr62 := Kd.C_mid (lo := ((ji55) : Int).toNat) (hi := ((t286.length : Int) : Int).toNat) (c := co11) hC62 (by omega) (by omega) hroom62; obtain ⟨A62, hA62⟩ : ∃ A1, A1 = (if co11 = ((ji55) : Int).toNat then Ao11 else (Ao11 : Option Addr).map (·.add (((ji55) : Int).toNat * 1))) := ⟨_, rfl⟩; obtain ⟨c62, hc62⟩ : ∃ c1, c1 = co11 - ((ji55) : Int).toNat := ⟨_, rfl⟩; have hy62 : y320.length = ((t286.length : Int) : Int).toNat - ((ji55) : Int).toNat := (by rw [Ny320.out, List.length_drop, List.length_take] <;> omega); rw [show ((t286).take ((t286.length : Int) : Int).toNat).drop ((ji55) : Int).toNat = y320 from Ny320.out.symm] at hr62; replace hr62 : Kd.C (Kd.int .i64) _ A62 y320.length y320 := (by rw [hA62]; exact hr62); rw [← hy62, ← hA62, ← hc62] at hcut62; have HR323 := Aside0.mk hr62; have HC323 := Aside0.mk (show y320.length ≤ c62 from by rw [hy62, hc62]; exact Nat.sub_le_sub_right (Nat.le_trans (by omega) hroom62) _); clear hr62 hC62 hroom62 hi062 hsz62 hc62; have KY62 := Aside0.mk hy62; have KA62 := Aside0.mk hA62; clear hy62 hA62; have KL62 := Aside0.mk (show ((t286.length : Int) : Int).toNat ≤ t286.length from by omega); have KM62 := Aside0.mk (show ((ji55) : Int).toNat ≤ ((t286.length : Int) : Int).toNat from by omega); replace q62 := eq_true q62; obtain ⟨Ao63, co63, eo63⟩ := Kd.R_slice HO_15.out; subst eo63) | (go_at_call 17; (with_reducible refine (incipitref06_Same.calls k3 _ _ t306 _ _ y320 t324 _ ?side1 ?side2 ?side3 ?side4 A59.out).mono ?_); (case side1 => repeat (first | exact (Kd.R_reads' HO_15.out).2.2 | (with_reducible refine Kd.C_alloc ?_ _) | (with_reducible refine Kd.C_drewN ?_ _) | (with_reducible refine Kd.C_drew ?_))); (case side2 => exact (Kd.R_reads' HO_15.out).2.1); (case side3 => repeat (first | exact (by repeat (first | (with_reducible exact HR323.out) | (with_reducible refine Kd.C_alloc ?_ _) | (with_reducible refine Kd.C_drewN ?_ _) | (with_reducible refine Kd.C_drew ?_) | exact HR323.out)) | (with_reducible refine Kd.C_alloc ?_ _) | (with_reducible refine Kd.C_drewN ?_ _) | (with_reducible refine Kd.C_drew ?_))); (case side4 => exact HC323.out); rintro e w' ⟨rfl, ⟨nd, rfl⟩⟩; (try first | exact ⟨rfl, _, World.drewN_drewN _ _ _⟩ | exact ⟨rfl, _, Eq.trans (World.drewN_drewN _ _ _) (congrArg (World.drewN _) (Nat.add_assoc _ _ _))⟩))))
                   go_ret
                   exact ⟨by first | rfl | (simp [errW_none, errW_some] <;> rfl) | (simp only [← hji55]; first | rfl | (simp [errW_none, errW_some] <;> rfl)) | (simp [*, errW_none, errW_some] <;> rfl), by repeat (first | (with_reducible first | exact HB.out | apply below_alloc | apply pw_below_drewN | apply below_drew1) | exact HB.out)⟩
                  ·rw [if_neg c58] at H
                   exact absurd H (by simp)
                 ·rw [if_neg c57] at H
                  exact absurd H (by simp)
                ·rw [if_neg c56] at H
                 exact absurd H (by simp)
               ·rw [if_neg c54] at H
                have c54b0 : (t307 == 0) = false := beq_eq_false_iff_ne.mpr c54
                have c54b1 : (t307 != 0) = true := bne_iff_ne.mpr c54
                exact absurd (HR_.out ▸ H) (by simp)
              ·replace c53 := Bool.eq_false_iff.mpr c53
               subst c53
               have H1 : (some false) = some r := by rw [if_neg (show ¬ (false = true) by decide)] at H; exact H
               clear H
               have H := H1
               clear H1
               exact absurd (HR_.out ▸ H) (by simp)
            ·rw [if_neg c36] at H
             have c36b0 : ((rd t300 x17_3) == (wrap64 (Int.tmod (IntKind.u64.wrap (a2)) (IntKind.u64.wrap ((t286.length : Int)))))) = false := beq_eq_false_iff_ne.mpr c36
             have c36b1 : ((rd t300 x17_3) != (wrap64 (Int.tmod (IntKind.u64.wrap (a2)) (IntKind.u64.wrap ((t286.length : Int)))))) = true := bne_iff_ne.mpr c36
             have H' := Aside0.mk H
             clear H
             obtain ⟨Ao64, co64, eo64⟩ := Kd.R_slice HO_13.out
             subst eo64
             have p311 : 0 ≤ (x17_3 : Int) := of_decide_eq_true (by first | (with_reducible assumption) | assumption)
             have q311 : x17_3 < (t300.length : Int) := of_decide_eq_true (by first | (with_reducible assumption) | assumption)
             obtain ⟨ad311, e311, hx311_0⟩ := Kd.at_int (Kd.R_reads' HO_13.out).2.2 x17_3 p311 q311
             cases e311
             replace p311 := eq_true p311
             replace q311 := eq_true q311
             go_wp2
             repeat (go_quiet (fail); try go_wp2)
             go_roundg k3
             case measure => have := HJ8.out; have := HK2.out; have := HK3.out; omega
             case rel => exact ⟨(wrap64 (x17_3 + 1)), (by first | rfl | (simp; done) | (simp [*]; done)), H', ⟨by have := HJ8.out; have := HK2.out; have := HK3.out; omega⟩, ⟨by (with_reducible repeat (first | apply Kd.R_alloc | apply Kd.R_drewN | apply Kd.R_drew)); exact HO_7.out⟩, ⟨by (with_reducible repeat (first | apply Kd.R_alloc | apply Kd.R_drewN | apply Kd.R_drew)); exact HO_13.out⟩, ⟨by (with_reducible repeat (first | apply Kd.R_alloc | apply Kd.R_drewN | apply Kd.R_drew)); exact HO_15.out⟩, ⟨by repeat (first | (with_reducible first | exact HB.out | apply below_alloc | apply pw_below_drewN | apply below_drew1) | exact HB.out)⟩⟩
           ·rw [if_neg c35] at H
            exact absurd H (by simp)
          ·rw [if_neg c34] at H
           have c34b0 : decide (x17_3 < (t300.length : Int)) = false := decide_eq_false c34
           clear c34
           replace H := Option.bind_eq_some_iff.mp H
           obtain ⟨t310, A650, H⟩ := H
           replace H : (if t310 = true then (some (t307 == 7)) else (some false)) = some r := H
           have A65 := Aside0.mk A650
           clear A650
           by_cases c66 : t310 = true
           ·subst c66
            have H1 : (some (t307 == 7)) = some r := by rw [if_pos rfl] at H; exact H
            clear H
            have H := H1
            clear H1
            obtain rfl := Option.some.inj H
            obtain ⟨Ao67, co67, eo67⟩ := Kd.R_slice HO_13.out
            subst eo67
            go_wp2_with (first | (go_at_call 16; (with_reducible refine (incipitlaw15_known.calls k3  true _ A65.out).mono ?_); rintro e w68 ⟨rfl, hb⟩; have n0_ := Aside0.mk (Kd.R_below (by (with_reducible repeat (first | apply Kd.R_alloc | apply Kd.R_drewN | apply Kd.R_drew)); exact HO_7.out) hb); have n1_ := Aside0.mk (Kd.R_below (by (with_reducible repeat (first | apply Kd.R_alloc | apply Kd.R_drewN | apply Kd.R_drew)); exact HO_13.out) hb); have n2_ := Aside0.mk (Kd.R_below (by (with_reducible repeat (first | apply Kd.R_alloc | apply Kd.R_drewN | apply Kd.R_drew)); exact HO_15.out) hb); have n3_ := Aside0.mk (below_step (by repeat (first | (with_reducible first | exact HB.out | apply below_alloc | apply pw_below_drewN | apply below_drew1) | exact HB.out)) hb); clear HO_7; clear HO_13; clear HO_15; clear HB; have HO_7 := n0_; have HO_13 := n1_; have HO_15 := n2_; have HB := n3_; clear n0_ n1_ n2_ n3_; (try clear hb); (try clear hb2); (try clear hk); (try clear hi)))
            repeat (go_quiet (first | (go_at_call 16; (with_reducible refine (incipitlaw15_known.calls k3  true _ A65.out).mono ?_); rintro e w68 ⟨rfl, hb⟩; have n0_ := Aside0.mk (Kd.R_below (by (with_reducible repeat (first | apply Kd.R_alloc | apply Kd.R_drewN | apply Kd.R_drew)); exact HO_7.out) hb); have n1_ := Aside0.mk (Kd.R_below (by (with_reducible repeat (first | apply Kd.R_alloc | apply Kd.R_drewN | apply Kd.R_drew)); exact HO_13.out) hb); have n2_ := Aside0.mk (Kd.R_below (by (with_reducible repeat (first | apply Kd.R_alloc | apply Kd.R_drewN | apply Kd.R_drew)); exact HO_15.out) hb); have n3_ := Aside0.mk (below_step (by repeat (first | (with_reducible first | exact HB.out | apply below_alloc | apply pw_below_drewN | apply below_drew1) | exact HB.out)) hb); clear HO_7; clear HO_13; clear HO_15; clear HB; have HO_7 := n0_; have HO_13 := n1_; have HO_15 := n2_; have HB := n3_; clear n0_ n1_ n2_ n3_; (try clear hb); (try clear hb2); (try clear hk); (try clear hi))); try go_wp2_with (first | (go_at_call 16; (with_reducible refine (incipitlaw15_known.calls k3  true _ A65.out).mono ?_); rintro e w68 ⟨rfl, hb⟩; have n0_ := Aside0.mk (Kd.R_below (by (with_reducible repeat (first | apply Kd.R_alloc | apply Kd.R_drewN | apply Kd.R_drew)); exact HO_7.out) hb); have n1_ := Aside0.mk (Kd.R_below (by (with_reducible repeat (first | apply Kd.R_alloc | apply Kd.R_drewN | apply Kd.R_drew)); exact HO_13.out) hb); have n2_ := Aside0.mk (Kd.R_below (by (with_reducible repeat (first | apply Kd.R_alloc | apply Kd.R_drewN | apply Kd.R_drew)); exact HO_15.out) hb); have n3_ := Aside0.mk (below_step (by repeat (first | (with_reducible first | exact HB.out | apply below_alloc | apply pw_below_drewN | apply below_drew1) | exact HB.out)) hb); clear HO_7; clear HO_13; clear HO_15; clear HB; have HO_7 := n0_; have HO_13 := n1_; have HO_15 := n2_; have HB := n3_; clear n0_ n1_ n2_ n3_; (try clear hb); (try clear hb2); (try clear hk); (try clear hi))))
            go_ret
            exact ⟨by first | rfl | (simp [errW_none, errW_some] <;> rfl) | (simp [*, errW_none, errW_some] <;> rfl), by repeat (first | (with_reducible first | exact HB.out | apply below_alloc | apply pw_below_drewN | apply below_drew1) | exact HB.out)⟩
           ·replace c66 := Bool.eq_false_iff.mpr c66
            subst c66
            have H1 : (some false) = some r := by rw [if_neg (show ¬ (false = true) by decide)] at H; exact H
            clear H
            have H := H1
            clear H1
            exact absurd (HR_.out ▸ H) (by simp)

/-- THE ONE PURE STATEMENT of incipitlaw15_SuffixKinds: yours. -/
def incipitlaw15_SuffixKinds.Pure : Prop := ∀ (l0 : List Int) (a1 : Int) (a2 : Int), l0.length ≤ maxLen → l0.length * 8 ≤ 140737488351232 → (∀ x ∈ l0, (Lit.int .i64 x).wf = true) → (Lit.int .i64 a1).wf = true → (Lit.int .i64 a2).wf = true → ∃ k, incipitlaw15_SuffixKinds.f k l0 a1 a2 = some true
theorem incipitlaw15_SuffixKinds.walk (P : incipitlaw15_SuffixKinds.Pure) (a0 : Option Addr) (len0 cap0 : Nat) (z0 : List Int) (a1 : Int) (a2 : Int) (w : World) (w0 : (a0 = none ∧ len0 = 0 ∧ cap0 = 0 ∧ z0 = []) ∨ ∃ x, a0 = some x ∧ len0 ≤ cap0 ∧ cap0 ≤ maxLen ∧ z0.length = cap0 ∧ (∀ i, i < z0.length → w.cell? (x.add i) = some (.int .i64 (z0.getD i 0))) ∧ ∀ n ∈ z0, (Lit.int .i64 n).wf = true) (y0 : len0 * 8 ≤ 140737488351232) (w1 : (Lit.int .i64 a1).wf = true) (w2 : (Lit.int .i64 a2).wf = true) :
  Calls Try.prog 5 #[.slice a0 len0 cap0, .int .i64 a1, .int .i64 a2] w fun e w' => e = .returned (.bool true) ∧ Below w.heap.size w w' := by
 obtain ⟨l0, rfl, hr0, hm0, hw0, hc0⟩ := ReadsInt.ofRowC w0
 obtain ⟨k, h⟩ := P l0 a1 a2 hm0 y0 hw0 w1 w2
 refine (incipitlaw15_SuffixKinds.calls k _ _ l0 a1 a2 true w (Kd.C_of_reads (d := (0 : Int)) (h1 := fun _ => rfl) hr0) hc0 h rfl).mono ?_
 rintro e w' ⟨rfl, hd⟩
 exact ⟨rfl, hd⟩

end Go.Proofs.Ythkofhidhghmmaa.PSuf
