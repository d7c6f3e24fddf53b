-- Written by a program of this session (wip/tools/pp.sh, on the pattern of the kit's print): not typed by hand.
import Derived.Test.YtneliajeokajbaaPExtx0
import Derived.Test.YtneliajeokajbaaPExtx2
import Derived.Test.YtneliajeokajbaaPExtx3
import Derived.Test.YtneliajeokajbaaPExtx5
import Derived.Test.YtneliajeokajbaaPExtx6
namespace Go.Proofs.Ytneliajeokajbaa.PExt
open Go.RowKit Go.Proofs.YtneliajeokajbaaW.PrintWords Go.Proofs.YtneliajeokajbaaW.PrintLast Go.Proofs.YtneliajeokajbaaW.PrintMore
attribute [local go_sem] max2_int min2_int max_two min_two max_three min_three max_four min_four   -- for this text's walks alone
set_option linter.unusedVariables false
set_option linter.unusedSimpArgs false

/-! ### incipitlaw08_ExtentOf: function 4 -/
def incipitlaw08_ExtentOf.j0 : Nat → List Int → List (S107) → Int → Bool → Option (Bool)
 | 0, _, _, _, _ => none
 | k + 1, x0, x3, x6, x31 => if x31 = true then (some false) else ((incipitlaw08_known.f k).bind fun t240 => (if t240 = true then (if x6 = 0 then ((extent_Check.f k x3).bind fun t241 => (if t241 = 0 then ((extent_Pages.f k x3).bind fun t242 => ((incipitref06_Same.f k t242 x0).bind fun t245 => (if t245 = true then ((extent_Count.f k x3).bind fun t246 => (some (t246 == (x0.length : Int)))) else (some false)))) else (some false))) else (some true)) else (some false)))
def incipitlaw08_ExtentOf.f (k : Nat) (l0 : List Int) : Option (Bool) := if 0 ≤ (mn (l0.length : Int) 1100) then (if (mn (l0.length : Int) 1100) ≤ (l0.length : Int) then ((extent_Of.f k (l0.take ((mn (l0.length : Int) 1100) : Int).toNat)).bind fun bt228 => ((incipitref08_Of.f k (l0.take ((mn (l0.length : Int) 1100) : Int).toNat)).bind fun bt232 => (if bt228.2 = bt232.2 then ((incipitlaw08_Of.f k bt228.1).bind fun t236 => ((incipitref08_Same.f k t236 bt232.1).bind fun t239 => (incipitlaw08_ExtentOf.j0 k (l0.take ((mn (l0.length : Int) 1100) : Int).toNat) bt228.1 bt232.2 (!t239)))) else (incipitlaw08_ExtentOf.j0 k (l0.take ((mn (l0.length : Int) 1100) : Int).toNat) bt228.1 bt232.2 true)))) else (none)) else (none)
theorem incipitlaw08_ExtentOf.mono_l : ∀ k, (∀ y0 y1 y2 y3, LeO (incipitlaw08_ExtentOf.j0 k y0 y1 y2 y3) (incipitlaw08_ExtentOf.j0 (k + 1) y0 y1 y2 y3))
 | 0 => fun _ _ _ _ r h => by simp [incipitlaw08_ExtentOf.j0] at h
 | k + 1 => by
  have ih0 := incipitlaw08_ExtentOf.mono_l k
  ·intro y0 y1 y2 y3
   unfold incipitlaw08_ExtentOf.j0
   repeat' first
   | (with_reducible exact ih0 _ _ _ _)
   | (with_reducible exact extent_Check.mono _ _)
   | (with_reducible exact extent_Count.mono _ _)
   | (with_reducible exact extent_Of.mono _ _)
   | (with_reducible exact extent_Pages.mono _ _)
   | (with_reducible exact incipitlaw08_Of.mono _ _)
   | (with_reducible exact incipitlaw08_known.mono _)
   | (with_reducible exact incipitref06_Same.mono _ _ _)
   | (with_reducible exact incipitref08_Of.mono _ _)
   | (with_reducible exact incipitref08_Same.mono _ _ _)
   | (with_reducible exact LeO.refl _)
   | (with_reducible exact LeO.none _)
   | (with_reducible refine LeO.ite ?_ ?_)
   | (with_reducible refine LeO.bind ?_ (fun _ => ?_))
   | exact ih0 _ _ _ _
   | exact extent_Check.mono _ _
   | exact extent_Count.mono _ _
   | exact extent_Of.mono _ _
   | exact extent_Pages.mono _ _
   | exact incipitlaw08_Of.mono _ _
   | exact incipitlaw08_known.mono _
   | exact incipitref06_Same.mono _ _ _
   | exact incipitref08_Of.mono _ _
   | exact incipitref08_Same.mono _ _ _
   | exact LeO.none _
   | refine LeO.ite ?_ ?_
   | refine LeO.bind ?_ (fun _ => ?_)
theorem incipitlaw08_ExtentOf.mono : ∀ a0 k, LeO (incipitlaw08_ExtentOf.f k a0) (incipitlaw08_ExtentOf.f (k + 1) a0) := by
 intro a0 k
 have ih0 := incipitlaw08_ExtentOf.mono_l k
 unfold incipitlaw08_ExtentOf.f
 repeat' first
   | (with_reducible exact ih0 _ _ _ _)
   | (with_reducible exact extent_Check.mono _ _)
   | (with_reducible exact extent_Count.mono _ _)
   | (with_reducible exact extent_Of.mono _ _)
   | (with_reducible exact extent_Pages.mono _ _)
   | (with_reducible exact incipitlaw08_Of.mono _ _)
   | (with_reducible exact incipitlaw08_known.mono _)
   | (with_reducible exact incipitref06_Same.mono _ _ _)
   | (with_reducible exact incipitref08_Of.mono _ _)
   | (with_reducible exact incipitref08_Same.mono _ _ _)
   | (with_reducible exact LeO.refl _)
   | (with_reducible exact LeO.none _)
   | (with_reducible refine LeO.ite ?_ ?_)
   | (with_reducible refine LeO.bind ?_ (fun _ => ?_))
   | exact ih0 _ _ _ _
   | exact extent_Check.mono _ _
   | exact extent_Count.mono _ _
   | exact extent_Of.mono _ _
   | exact extent_Pages.mono _ _
   | exact incipitlaw08_Of.mono _ _
   | exact incipitlaw08_known.mono _
   | exact incipitref06_Same.mono _ _ _
   | exact incipitref08_Of.mono _ _
   | exact incipitref08_Same.mono _ _ _
   | exact LeO.none _
   | refine LeO.ite ?_ ?_
   | refine LeO.bind ?_ (fun _ => ?_)
set_option maxHeartbeats 8000000 in
set_option maxRecDepth 100000 in
theorem incipitlaw08_ExtentOf.calls (k : Nat) (A0 : Option Addr) (c0 : Nat) (l0 : List Int) (r : Bool) (w : World) (hr0 : Kd.C (Kd.int .i64) w A0 l0.length l0) (hc0 : l0.length ≤ c0) (h : incipitlaw08_ExtentOf.f k l0 = some r) :
  Calls Try.prog 4 #[.slice A0 l0.length c0] w fun e w' => e = .returned (.bool r) ∧ Below w.heap.size w w' := by
 have HR0 := Aside0.mk hr0
 have HC0 := Aside0.mk hc0
 clear hr0 hc0
 have HB := Aside0.mk (Below.refl w.heap.size w)
 have H : (if 0 ≤ (mn (l0.length : Int) 1100) then (if (mn (l0.length : Int) 1100) ≤ (l0.length : Int) then ((extent_Of.f k (l0.take ((mn (l0.length : Int) 1100) : Int).toNat)).bind fun bt228 => ((incipitref08_Of.f k (l0.take ((mn (l0.length : Int) 1100) : Int).toNat)).bind fun bt232 => (if bt228.2 = bt232.2 then ((incipitlaw08_Of.f k bt228.1).bind fun t236 => ((incipitref08_Same.f k t236 bt232.1).bind fun t239 => (incipitlaw08_ExtentOf.j0 k (l0.take ((mn (l0.length : Int) 1100) : Int).toNat) bt228.1 bt232.2 (!t239)))) else (incipitlaw08_ExtentOf.j0 k (l0.take ((mn (l0.length : Int) 1100) : Int).toNat) bt228.1 bt232.2 true)))) else (none)) else (none)) = some r := h
 clear h
 obtain ⟨ji2, hji2⟩ : ∃ j_ : Int, (mn (l0.length : Int) 1100) = j_ := ⟨_, rfl⟩
 replace H : (if 0 ≤ (ji2) then (if (ji2) ≤ (l0.length : Int) then ((extent_Of.f k (l0.take ((ji2) : Int).toNat)).bind fun bt228 => ((incipitref08_Of.f k (l0.take ((ji2) : Int).toNat)).bind fun bt232 => (if bt228.2 = bt232.2 then ((incipitlaw08_Of.f k bt228.1).bind fun t236 => ((incipitref08_Same.f k t236 bt232.1).bind fun t239 => (incipitlaw08_ExtentOf.j0 k (l0.take ((ji2) : Int).toNat) bt228.1 bt232.2 (!t239)))) else (incipitlaw08_ExtentOf.j0 k (l0.take ((ji2) : Int).toNat) bt228.1 bt232.2 true)))) else (none)) else (none)) = some r := by first | (rw [hji2] at H; exact H) | (simp only [hji2] at H ⊢; exact H)
 (try (have hji2h : ji2 ≤ 1100 := by (rw [← hji2]; unfold mn; (repeat' split) <;> omega)))
 (try (have hji2g : ji2 ≤ 64 := by omega))
 (try (have hji2l : 0 ≤ ji2 := by (rw [← hji2]; unfold mn; (repeat' split) <;> omega)))
 (try (have hji2m : 0 ≤ ji2 := by omega))
 have hji2_ : (if 1100 < (l0.length : Int) then 1100 else (l0.length : Int)) = ji2 := hji2
 by_cases c3 : 0 ≤ (ji2)
 ·rw [if_pos c3] at H
  have c3b0 := eq_true c3
  have c3b1 : decide (0 ≤ (ji2)) = true := decide_eq_true c3
  clear c3
  by_cases c4 : (ji2) ≤ (l0.length : Int)
  ·rw [if_pos c4] at H
   have c4b0 := eq_true c4
   have c4b1 : decide ((ji2) ≤ (l0.length : Int)) = true := decide_eq_true c4
   clear c4
   replace H := Option.bind_eq_some_iff.mp H
   obtain ⟨⟨t228, t229⟩, A50, H⟩ := H
   replace H : ((incipitref08_Of.f k (l0.take ((ji2) : Int).toNat)).bind fun bt232 => (if t229 = bt232.2 then ((incipitlaw08_Of.f k t228).bind fun t236 => ((incipitref08_Same.f k t236 bt232.1).bind fun t239 => (incipitlaw08_ExtentOf.j0 k (l0.take ((ji2) : Int).toNat) t228 bt232.2 (!t239)))) else (incipitlaw08_ExtentOf.j0 k (l0.take ((ji2) : Int).toNat) t228 bt232.2 true))) = some r := H
   have A5 := Aside0.mk A50
   clear A50
   replace H := Option.bind_eq_some_iff.mp H
   obtain ⟨⟨t232, t233⟩, A60, H⟩ := H
   replace H : (if t229 = t233 then ((incipitlaw08_Of.f k t228).bind fun t236 => ((incipitref08_Same.f k t236 t232).bind fun t239 => (incipitlaw08_ExtentOf.j0 k (l0.take ((ji2) : Int).toNat) t228 t233 (!t239)))) else (incipitlaw08_ExtentOf.j0 k (l0.take ((ji2) : Int).toNat) t228 t233 true)) = some r := H
   have A6 := Aside0.mk A60
   clear A60
   have HC7 := Aside0.mk H
   clear H
   obtain ⟨i08, hi08, _, hsz8, _⟩ := info_parts info3
   obtain ⟨hcut8, hA8, hC8⟩ := print_take_of (P := Try.prog) (Value.int .i64) 0 23 3 .i64 Try.underlying23 hi08 hsz8 A0 c0 l0 (ji2) (of_decide_eq_true (by first | (with_reducible assumption) | assumption)) (of_decide_eq_true (by first | (with_reducible assumption) | assumption)) HC0.out
   have HR227 := Aside0.mk (Kd.C_of_reads (h1 := fun _ => rfl) (hA8 _ (Kd.reads_of_C HR0.out)))
   have HC227 := Aside0.mk hC8
   clear hA8 hC8 hi08 hsz8
   have hSL8 := Aside0.mk (show (l0.take ((ji2) : Int).toNat).length = (ji2).toNat from (by rw [List.length_take]; have h_ : ((ji2) : Int) ≤ (l0.length : Int) := of_decide_eq_true (by first | (with_reducible assumption) | assumption); omega))
   go_enter Try.func4, Try.ntmps4
   go_upto_region 4 with (first | ((with_reducible refine gate_callee (f := 21) rfl ?_); refine goesL_ (some 14) rfl rfl Try.func21 (by kernel_rfl) rfl #[.slice A0 (l0.take ((ji2) : Int).toNat).length c0] rfl (by (try simp only [List.map_toArray, List.map_cons, List.map_nil]); first | done | (rw [show (l0.take ((ji2) : Int).toNat).length = (ji2).toNat from hSL8.out] <;> rfl) | (simp only [hji2]; rfl) | rfl | (simp only [List.length_drop, List.length_take]; rfl)) ?_; (with_reducible refine (extent_Of.calls k _ _ (l0.take ((ji2) : Int).toNat) t228 t229 _ ?side1 ?side2 A5.out).mono ?_); (case side1 => repeat (first | exact HR227.out | (with_reducible refine Kd.C_alloc ?_ _) | (with_reducible refine Kd.C_drewN ?_ _) | (with_reducible refine Kd.C_drew ?_))); (case side2 => exact HC227.out); rintro e w9 ⟨v230, rfl, ho0, hb⟩; refine ⟨_, rfl, ?_⟩; have n0_ := Aside0.mk (Kd.R_lower ho0 (below_size (by repeat (first | (with_reducible first | exact HB.out | apply below_alloc | apply pw_below_drewN | apply below_drew1) | exact HB.out)))); have n1_ := Aside0.mk (below_step (by repeat (first | (with_reducible first | exact HB.out | apply below_alloc | apply pw_below_drewN | apply below_drew1) | exact HB.out)) hb); clear HB; have HO231 := n0_; have HB := n1_; clear n0_ n1_; (try clear hb); (try clear hb2); (try clear hk); (try clear hi); (try clear ho0)) | ((with_reducible refine gate_callee (f := 22) rfl ?_); refine goesL_ (some 19) rfl rfl Try.func22 (by kernel_rfl) rfl #[.slice A0 (l0.take ((ji2) : Int).toNat).length c0] rfl (by (try simp only [List.map_toArray, List.map_cons, List.map_nil]); first | done | (rw [show (l0.take ((ji2) : Int).toNat).length = (ji2).toNat from hSL8.out] <;> rfl) | (simp only [hji2]; rfl) | rfl | (simp only [List.length_drop, List.length_take]; rfl)) ?_; (with_reducible refine (incipitref08_Of.calls k _ _ (l0.take ((ji2) : Int).toNat) t232 t233 _ ?side1 ?side2 A6.out).mono ?_); (case side1 => repeat (first | exact (Kd.C_below HR227.out HB.out) | (with_reducible refine Kd.C_alloc ?_ _) | (with_reducible refine Kd.C_drewN ?_ _) | (with_reducible refine Kd.C_drew ?_))); (case side2 => exact HC227.out); rintro e w10 ⟨v234, rfl, ho0, hb⟩; refine ⟨_, rfl, ?_⟩; have n0_ := Aside0.mk (Kd.R_below (by (with_reducible repeat (first | apply Kd.R_alloc | apply Kd.R_drewN | apply Kd.R_drew)); exact HO231.out) hb); have n1_ := Aside0.mk (Kd.R_lower ho0 (below_size (by repeat (first | (with_reducible first | exact HB.out | apply below_alloc | apply pw_below_drewN | apply below_drew1) | exact HB.out)))); have n2_ := Aside0.mk (below_step (by repeat (first | (with_reducible first | exact HB.out | apply below_alloc | apply pw_below_drewN | apply below_drew1) | exact HB.out)) hb); clear HO231; clear HB; have HO231 := n0_; have HO235 := n1_; have HB := n2_; clear n0_ n1_ n2_; (try clear hb); (try clear hb2); (try clear hk); (try clear hi); (try clear ho0)))
   (try simp only [Act.put, List.setIfInBounds_toArray, List.set_cons_zero, List.set_cons_succ])
   go_cut [31] (fun v31 wc => ∃ (kq : Nat) (x31_6 : Bool), v31 = .bool x31_6 ∧ Aside0 (incipitlaw08_ExtentOf.j0 kq (l0.take ((ji2) : Int).toNat) t228 t233 x31_6 = some r) ∧ Aside0 (kq ≤ k) ∧ Aside0 (Kd.R k107 107 wc w.heap.size (fun _ => True) v230 t228) ∧ Aside0 (Below w.heap.size w wc))
   case first =>
    have H := HC7.out
    clear HC7
    by_cases c11 : t229 = t233
    ·rw [if_pos c11] at H
     have c11b0 : (t229 == t233) = true := beq_iff_eq.mpr c11
     have c11b1 : (t229 != t233) = false := bne_eq_false_iff_eq.mpr c11
     clear c11
     (first | rw [c11b0] | (simp only [i64_w, i32_w]; rw [c11b0]) | skip)
     replace H := Option.bind_eq_some_iff.mp H
     obtain ⟨t236, A120, H⟩ := H
     replace H : ((incipitref08_Same.f k t236 t232).bind fun t239 => (incipitlaw08_ExtentOf.j0 k (l0.take ((ji2) : Int).toNat) t228 t233 (!t239))) = some r := H
     have A12 := Aside0.mk A120
     clear A120
     replace H := Option.bind_eq_some_iff.mp H
     obtain ⟨t239, A130, H⟩ := H
     replace H : (incipitlaw08_ExtentOf.j0 k (l0.take ((ji2) : Int).toNat) t228 t233 (!t239)) = some r := H
     have A13 := Aside0.mk A130
     clear A130
     have H' := Aside0.mk H
     clear H
     obtain ⟨Ao14, co14, eo14⟩ := Kd.R_slice HO231.out
     subst eo14
     go_wp2_with (first | (go_at_call 24; (with_reducible refine (incipitlaw08_Of.calls k _ _ t228 t236 _ ?side1 ?side2 A12.out).mono ?_); (case side1 => repeat (first | exact (Kd.R_reads' HO231.out).2.2 | (with_reducible refine Kd.C_alloc ?_ _) | (with_reducible refine Kd.C_drewN ?_ _) | (with_reducible refine Kd.C_drew ?_))); (case side2 => exact (Kd.R_reads' HO231.out).2.1); rintro e w15 ⟨v237, rfl, ho0, hb⟩; have n0_ := Aside0.mk (Kd.R_below (by (with_reducible repeat (first | apply Kd.R_alloc | apply Kd.R_drewN | apply Kd.R_drew)); exact HO231.out) hb); have n1_ := Aside0.mk (Kd.R_elder' (by (with_reducible repeat (first | apply Kd.R_alloc | apply Kd.R_drewN | apply Kd.R_drew)); exact HO235.out) (Kd.R_base ho0) hb); have n2_ := Aside0.mk (Kd.R_lower (Kd.R_new' ho0 (Kd.R_lt (by (with_reducible repeat (first | apply Kd.R_alloc | apply Kd.R_drewN | apply Kd.R_drew)); exact HO235.out))) (below_size (by repeat (first | (with_reducible first | exact HB.out | apply below_alloc | apply pw_below_drewN | apply below_drew1) | exact HB.out)))); have n3_ := Aside0.mk (below_step (by repeat (first | (with_reducible first | exact HB.out | apply below_alloc | apply pw_below_drewN | apply below_drew1) | exact HB.out)) hb); clear HO231; clear HO235; clear HB; have HO231 := n0_; have HO235 := n1_; have HO238 := n2_; have HB := n3_; clear n0_ n1_ n2_ n3_; (try clear hb); (try clear hb2); (try clear hk); (try clear hi); (try clear ho0); obtain ⟨Ao16, co16, eo16⟩ := Kd.R_slice HO238.out; subst eo16; obtain ⟨Ao17, co17, eo17⟩ := Kd.R_slice HO235.out; subst eo17) | (go_at_call 23; (with_reducible refine (incipitref08_Same.calls k _ _ t236 _ _ t232 t239 _ ?side1 ?side2 ?side3 ?side4 A13.out).mono ?_); (case side1 => repeat (first | exact (Kd.R_reads' HO238.out).2.2 | (with_reducible refine Kd.C_alloc ?_ _) | (with_reducible refine Kd.C_drewN ?_ _) | (with_reducible refine Kd.C_drew ?_))); (case side2 => exact (Kd.R_reads' HO238.out).2.1); (case side3 => repeat (first | exact (Kd.R_reads' HO235.out).2.2 | (with_reducible refine Kd.C_alloc ?_ _) | (with_reducible refine Kd.C_drewN ?_ _) | (with_reducible refine Kd.C_drew ?_))); (case side4 => exact (Kd.R_reads' HO235.out).2.1); rintro e w' ⟨rfl, ⟨nd, rfl⟩⟩))
     go_meet
     case rel => exact ⟨_, (!t239), (by first | rfl | (simp; done) | (simp [*]; done)), H', ⟨by first | omega | exact Nat.le_refl _⟩, ⟨by (with_reducible repeat (first | apply Kd.R_alloc | apply Kd.R_drewN | apply Kd.R_drew)); exact HO231.out⟩, ⟨by repeat (first | (with_reducible first | exact HB.out | apply below_alloc | apply pw_below_drewN | apply below_drew1) | exact HB.out)⟩⟩
    ·rw [if_neg c11] at H
     have c11b0 : (t229 == t233) = false := beq_eq_false_iff_ne.mpr c11
     have c11b1 : (t229 != t233) = true := bne_iff_ne.mpr c11
     (first | rw [c11b0] | (simp only [i64_w, i32_w]; rw [c11b0]) | skip)
     have H' := Aside0.mk H
     clear H
     go_wp2
     go_meet
     case rel => exact ⟨_, (true), (by first | rfl | (simp; done) | (simp [*]; done)), H', ⟨by first | omega | exact Nat.le_refl _⟩, ⟨by (with_reducible repeat (first | apply Kd.R_alloc | apply Kd.R_drewN | apply Kd.R_drew)); exact HO231.out⟩, ⟨by repeat (first | (with_reducible first | exact HB.out | apply below_alloc | apply pw_below_drewN | apply below_drew1) | exact HB.out)⟩⟩
   case rest =>
    clear HC7
    try clear c1
    try clear c2
    try clear p2
    try clear c3
    try clear c3b0
    try clear c3b1
    try clear c4
    try clear c4b0
    try clear c4b1
    try clear c11
    try clear c11b0
    try clear c11b1
    obtain ⟨kq, x31_6, rfl, HA, HJ6, HO_3, HB⟩ := hcut
    cases kq with
    | zero => exact absurd HA.out (by simp [incipitlaw08_ExtentOf.j0])
    | succ kj6 =>
     have H := HA.out
     clear HA
     simp only [incipitlaw08_ExtentOf.j0] at H
     by_cases c18 : x31_6 = true
     ·subst c18
      have H1 : (some false) = some r := by rw [if_pos rfl] at H; exact H
      clear H
      have H := H1
      clear H1
      obtain rfl := Option.some.inj H
      go_wp2
      go_ret
      exact ⟨by first | rfl | (rw [hSL8.out]; first | rfl | simp) | (simp [errW_none, errW_some] <;> rfl) | (simp only [← hji2]; first | rfl | (simp [errW_none, errW_some] <;> rfl)) | (simp [*, errW_none, errW_some] <;> rfl), by repeat (first | (with_reducible first | exact HB.out | apply below_alloc | apply pw_below_drewN | apply below_drew1) | exact HB.out)⟩
     ·replace c18 := Bool.eq_false_iff.mpr c18
      subst c18
      have H1 : ((incipitlaw08_known.f kj6).bind fun t240 => (if t240 = true then (if t233 = 0 then ((extent_Check.f kj6 t228).bind fun t241 => (if t241 = 0 then ((extent_Pages.f kj6 t228).bind fun t242 => ((incipitref06_Same.f kj6 t242 (l0.take ((ji2) : Int).toNat)).bind fun t245 => (if t245 = true then ((extent_Count.f kj6 t228).bind fun t246 => (some (t246 == ((l0.take ((ji2) : Int).toNat).length : Int)))) else (some false)))) else (some false))) else (some true)) else (some false))) = some r := by rw [if_neg (show ¬ (false = true) by decide)] at H; exact H
      clear H
      have H := H1
      clear H1
      replace H := Option.bind_eq_some_iff.mp H
      obtain ⟨t240, A190, H⟩ := H
      replace H : (if t240 = true then (if t233 = 0 then ((extent_Check.f kj6 t228).bind fun t241 => (if t241 = 0 then ((extent_Pages.f kj6 t228).bind fun t242 => ((incipitref06_Same.f kj6 t242 (l0.take ((ji2) : Int).toNat)).bind fun t245 => (if t245 = true then ((extent_Count.f kj6 t228).bind fun t246 => (some (t246 == ((l0.take ((ji2) : Int).toNat).length : Int)))) else (some false)))) else (some false))) else (some true)) else (some false)) = some r := H
      have A19 := Aside0.mk A190
      clear A190
      by_cases c20 : t240 = true
      ·subst c20
       have H1 : (if t233 = 0 then ((extent_Check.f kj6 t228).bind fun t241 => (if t241 = 0 then ((extent_Pages.f kj6 t228).bind fun t242 => ((incipitref06_Same.f kj6 t242 (l0.take ((ji2) : Int).toNat)).bind fun t245 => (if t245 = true then ((extent_Count.f kj6 t228).bind fun t246 => (some (t246 == ((l0.take ((ji2) : Int).toNat).length : Int)))) else (some false)))) else (some false))) else (some true)) = some r := by rw [if_pos rfl] at H; exact H
       clear H
       have H := H1
       clear H1
       by_cases c21 : t233 = 0
       ·rw [if_pos c21] at H
        have c21b0 : (t233 == 0) = true := beq_iff_eq.mpr c21
        have c21b1 : (t233 != 0) = false := bne_eq_false_iff_eq.mpr c21
        clear c21
        replace H := Option.bind_eq_some_iff.mp H
        obtain ⟨t241, A220, H⟩ := H
        replace H : (if t241 = 0 then ((extent_Pages.f kj6 t228).bind fun t242 => ((incipitref06_Same.f kj6 t242 (l0.take ((ji2) : Int).toNat)).bind fun t245 => (if t245 = true then ((extent_Count.f kj6 t228).bind fun t246 => (some (t246 == ((l0.take ((ji2) : Int).toNat).length : Int)))) else (some false)))) else (some false)) = some r := H
        have A22 := Aside0.mk A220
        clear A220
        by_cases c23 : t241 = 0
        ·rw [if_pos c23] at H
         have c23b0 : (t241 == 0) = true := beq_iff_eq.mpr c23
         have c23b1 : (t241 != 0) = false := bne_eq_false_iff_eq.mpr c23
         clear c23
         replace H := Option.bind_eq_some_iff.mp H
         obtain ⟨t242, A240, H⟩ := H
         replace H : ((incipitref06_Same.f kj6 t242 (l0.take ((ji2) : Int).toNat)).bind fun t245 => (if t245 = true then ((extent_Count.f kj6 t228).bind fun t246 => (some (t246 == ((l0.take ((ji2) : Int).toNat).length : Int)))) else (some false))) = some r := H
         have A24 := Aside0.mk A240
         clear A240
         replace H := Option.bind_eq_some_iff.mp H
         obtain ⟨t245, A250, H⟩ := H
         replace H : (if t245 = true then ((extent_Count.f kj6 t228).bind fun t246 => (some (t246 == ((l0.take ((ji2) : Int).toNat).length : Int)))) else (some false)) = some r := H
         have A25 := Aside0.mk A250
         clear A250
         by_cases c26 : t245 = true
         ·subst c26
          have H1 : ((extent_Count.f kj6 t228).bind fun t246 => (some (t246 == ((l0.take ((ji2) : Int).toNat).length : Int)))) = some r := by rw [if_pos rfl] at H; exact H
          clear H
          have H := H1
          clear H1
          replace H := Option.bind_eq_some_iff.mp H
          obtain ⟨t246, A270, H⟩ := H
          replace H : (some (t246 == ((l0.take ((ji2) : Int).toNat).length : Int))) = some r := H
          have A27 := Aside0.mk A270
          clear A270
          obtain rfl := Option.some.inj H
          go_wp2_with (first | ((with_reducible refine gate_callee (f := 25) rfl ?_); refine goesL_ (some 32) rfl rfl Try.func25 (by kernel_rfl) rfl #[] rfl (by (try simp only [List.map_toArray, List.map_cons, List.map_nil]); first | done | rfl | (simp only [List.length_drop, List.length_take]; rfl)) ?_; (with_reducible refine (incipitlaw08_known.calls kj6  true _ A19.out).mono ?_); rintro e w28 ⟨rfl, hb⟩; refine ⟨_, rfl, ?_⟩; have n0_ := Aside0.mk (Kd.R_below (by (with_reducible repeat (first | apply Kd.R_alloc | apply Kd.R_drewN | apply Kd.R_drew)); exact HO_3.out) hb); have n1_ := Aside0.mk (below_step (by repeat (first | (with_reducible first | exact HB.out | apply below_alloc | apply pw_below_drewN | apply below_drew1) | exact HB.out)) hb); clear HO_3; clear HB; have HO_3 := n0_; have HB := n1_; clear n0_ n1_; (try clear hb); (try clear hb2); (try clear hk); (try clear hi); obtain ⟨Ao29, co29, eo29⟩ := Kd.R_slice HO_3.out; subst eo29) | (go_at_call 26; (with_reducible refine (extent_Check.calls kj6 _ _ t228 t241 _ ?side1 ?side2 A22.out).mono ?_); (case side1 => repeat (first | exact (Kd.R_reads' HO_3.out).2.2 | (with_reducible refine Kd.C_alloc ?_ _) | (with_reducible refine Kd.C_drewN ?_ _) | (with_reducible refine Kd.C_drew ?_))); (case side2 => exact (Kd.R_reads' HO_3.out).2.1); rintro e w30 ⟨rfl, hb⟩; have n0_ := Aside0.mk (Kd.R_below (by (with_reducible repeat (first | apply Kd.R_alloc | apply Kd.R_drewN | apply Kd.R_drew)); exact HO_3.out) hb); have n1_ := Aside0.mk (below_step (by repeat (first | (with_reducible first | exact HB.out | apply below_alloc | apply pw_below_drewN | apply below_drew1) | exact HB.out)) hb); clear HO_3; clear HB; have HO_3 := n0_; have HB := n1_; clear n0_ n1_; (try clear hb); (try clear hb2); (try clear hk); (try clear hi)) | (go_at_call 27; (with_reducible refine (extent_Pages.calls kj6 _ _ t228 t242 _ ?side1 ?side2 A24.out).mono ?_); (case side1 => repeat (first | exact (Kd.R_reads' HO_3.out).2.2 | (with_reducible refine Kd.C_alloc ?_ _) | (with_reducible refine Kd.C_drewN ?_ _) | (with_reducible refine Kd.C_drew ?_))); (case side2 => exact (Kd.R_reads' HO_3.out).2.1); rintro e w31 ⟨v243, rfl, ho0, hb⟩; have n0_ := Aside0.mk (Kd.R_below (by (with_reducible repeat (first | apply Kd.R_alloc | apply Kd.R_drewN | apply Kd.R_drew)); exact HO_3.out) hb); have n1_ := Aside0.mk (Kd.R_lower ho0 (below_size (by repeat (first | (with_reducible first | exact HB.out | apply below_alloc | apply pw_below_drewN | apply below_drew1) | exact HB.out)))); have n2_ := Aside0.mk (below_step (by repeat (first | (with_reducible first | exact HB.out | apply below_alloc | apply pw_below_drewN | apply below_drew1) | exact HB.out)) hb); clear HO_3; clear HB; have HO_3 := n0_; have HO244 := n1_; have HB := n2_; clear n0_ n1_ n2_; (try clear hb); (try clear hb2); (try clear hk); (try clear hi); (try clear ho0); obtain ⟨Ao32, co32, eo32⟩ := Kd.R_slice HO244.out; subst eo32) | (go_at_call 16; refine calls_of_args (args' := #[.slice Ao32 t242.length co32, .slice A0 (l0.take ((ji2) : Int).toNat).length c0]) (by first | (rw [show (l0.take ((ji2) : Int).toNat).length = (ji2).toNat from hSL8.out] <;> rfl) | rfl) ?_; (with_reducible refine (incipitref06_Same.calls kj6 _ _ t242 _ _ (l0.take ((ji2) : Int).toNat) true _ ?side1 ?side2 ?side3 ?side4 A25.out).mono ?_); (case side1 => repeat (first | exact (Kd.R_reads' HO244.out).2.2 | (with_reducible refine Kd.C_alloc ?_ _) | (with_reducible refine Kd.C_drewN ?_ _) | (with_reducible refine Kd.C_drew ?_))); (case side2 => exact (Kd.R_reads' HO244.out).2.1); (case side3 => repeat (first | exact (Kd.C_below HR227.out HB.out) | (with_reducible refine Kd.C_alloc ?_ _) | (with_reducible refine Kd.C_drewN ?_ _) | (with_reducible refine Kd.C_drew ?_))); (case side4 => exact HC227.out); rintro e w' ⟨rfl, ⟨nd, rfl⟩⟩) | (go_at_call 28; (with_reducible refine (extent_Count.calls kj6 _ _ t228 t246 _ ?side1 ?side2 A27.out).mono ?_); (case side1 => repeat (first | exact (Kd.R_reads' HO_3.out).2.2 | (with_reducible refine Kd.C_alloc ?_ _) | (with_reducible refine Kd.C_drewN ?_ _) | (with_reducible refine Kd.C_drew ?_))); (case side2 => exact (Kd.R_reads' HO_3.out).2.1); rintro e w33 ⟨rfl, hb⟩; have n0_ := Aside0.mk (Kd.R_below (by (with_reducible repeat (first | apply Kd.R_alloc | apply Kd.R_drewN | apply Kd.R_drew)); exact HO_3.out) hb); have n1_ := Aside0.mk (Kd.R_below (by (with_reducible repeat (first | apply Kd.R_alloc | apply Kd.R_drewN | apply Kd.R_drew)); exact HO244.out) hb); have n2_ := Aside0.mk (below_step (by repeat (first | (with_reducible first | exact HB.out | apply below_alloc | apply pw_below_drewN | apply below_drew1) | exact HB.out)) hb); clear HO_3; clear HO244; clear HB; have HO_3 := n0_; have HO244 := n1_; have HB := n2_; clear n0_ n1_ n2_; (try clear hb); (try clear hb2); (try clear hk); (try clear hi)))
          go_ret
          exact ⟨by first | rfl | (rw [hSL8.out]; first | rfl | simp) | (simp [errW_none, errW_some] <;> rfl) | (simp only [← hji2]; first | rfl | (simp [errW_none, errW_some] <;> rfl)) | (simp [*, errW_none, errW_some] <;> rfl), by repeat (first | (with_reducible first | exact HB.out | apply below_alloc | apply pw_below_drewN | apply below_drew1) | exact HB.out)⟩
         ·replace c26 := Bool.eq_false_iff.mpr c26
          subst c26
          have H1 : (some false) = some r := by rw [if_neg (show ¬ (false = true) by decide)] at H; exact H
          clear H
          have H := H1
          clear H1
          obtain rfl := Option.some.inj H
          go_wp2_with (first | ((with_reducible refine gate_callee (f := 25) rfl ?_); refine goesL_ (some 32) rfl rfl Try.func25 (by kernel_rfl) rfl #[] rfl (by (try simp only [List.map_toArray, List.map_cons, List.map_nil]); first | done | rfl | (simp only [List.length_drop, List.length_take]; rfl)) ?_; (with_reducible refine (incipitlaw08_known.calls kj6  true _ A19.out).mono ?_); rintro e w34 ⟨rfl, hb⟩; refine ⟨_, rfl, ?_⟩; have n0_ := Aside0.mk (Kd.R_below (by (with_reducible repeat (first | apply Kd.R_alloc | apply Kd.R_drewN | apply Kd.R_drew)); exact HO_3.out) hb); have n1_ := Aside0.mk (below_step (by repeat (first | (with_reducible first | exact HB.out | apply below_alloc | apply pw_below_drewN | apply below_drew1) | exact HB.out)) hb); clear HO_3; clear HB; have HO_3 := n0_; have HB := n1_; clear n0_ n1_; (try clear hb); (try clear hb2); (try clear hk); (try clear hi); obtain ⟨Ao35, co35, eo35⟩ := Kd.R_slice HO_3.out; subst eo35) | (go_at_call 26; (with_reducible refine (extent_Check.calls kj6 _ _ t228 t241 _ ?side1 ?side2 A22.out).mono ?_); (case side1 => repeat (first | exact (Kd.R_reads' HO_3.out).2.2 | (with_reducible refine Kd.C_alloc ?_ _) | (with_reducible refine Kd.C_drewN ?_ _) | (with_reducible refine Kd.C_drew ?_))); (case side2 => exact (Kd.R_reads' HO_3.out).2.1); rintro e w36 ⟨rfl, hb⟩; have n0_ := Aside0.mk (Kd.R_below (by (with_reducible repeat (first | apply Kd.R_alloc | apply Kd.R_drewN | apply Kd.R_drew)); exact HO_3.out) hb); have n1_ := Aside0.mk (below_step (by repeat (first | (with_reducible first | exact HB.out | apply below_alloc | apply pw_below_drewN | apply below_drew1) | exact HB.out)) hb); clear HO_3; clear HB; have HO_3 := n0_; have HB := n1_; clear n0_ n1_; (try clear hb); (try clear hb2); (try clear hk); (try clear hi)) | (go_at_call 27; (with_reducible refine (extent_Pages.calls kj6 _ _ t228 t242 _ ?side1 ?side2 A24.out).mono ?_); (case side1 => repeat (first | exact (Kd.R_reads' HO_3.out).2.2 | (with_reducible refine Kd.C_alloc ?_ _) | (with_reducible refine Kd.C_drewN ?_ _) | (with_reducible refine Kd.C_drew ?_))); (case side2 => exact (Kd.R_reads' HO_3.out).2.1); rintro e w37 ⟨v243, rfl, ho0, hb⟩; have n0_ := Aside0.mk (Kd.R_below (by (with_reducible repeat (first | apply Kd.R_alloc | apply Kd.R_drewN | apply Kd.R_drew)); exact HO_3.out) hb); have n1_ := Aside0.mk (Kd.R_lower ho0 (below_size (by repeat (first | (with_reducible first | exact HB.out | apply below_alloc | apply pw_below_drewN | apply below_drew1) | exact HB.out)))); have n2_ := Aside0.mk (below_step (by repeat (first | (with_reducible first | exact HB.out | apply below_alloc | apply pw_below_drewN | apply below_drew1) | exact HB.out)) hb); clear HO_3; clear HB; have HO_3 := n0_; have HO244 := n1_; have HB := n2_; clear n0_ n1_ n2_; (try clear hb); (try clear hb2); (try clear hk); (try clear hi); (try clear ho0); obtain ⟨Ao38, co38, eo38⟩ := Kd.R_slice HO244.out; subst eo38) | (go_at_call 16; refine calls_of_args (args' := #[.slice Ao38 t242.length co38, .slice A0 (l0.take ((ji2) : Int).toNat).length c0]) (by first | (rw [show (l0.take ((ji2) : Int).toNat).length = (ji2).toNat from hSL8.out] <;> rfl) | rfl) ?_; (with_reducible refine (incipitref06_Same.calls kj6 _ _ t242 _ _ (l0.take ((ji2) : Int).toNat) false _ ?side1 ?side2 ?side3 ?side4 A25.out).mono ?_); (case side1 => repeat (first | exact (Kd.R_reads' HO244.out).2.2 | (with_reducible refine Kd.C_alloc ?_ _) | (with_reducible refine Kd.C_drewN ?_ _) | (with_reducible refine Kd.C_drew ?_))); (case side2 => exact (Kd.R_reads' HO244.out).2.1); (case side3 => repeat (first | exact (Kd.C_below HR227.out HB.out) | (with_reducible refine Kd.C_alloc ?_ _) | (with_reducible refine Kd.C_drewN ?_ _) | (with_reducible refine Kd.C_drew ?_))); (case side4 => exact HC227.out); rintro e w' ⟨rfl, ⟨nd, rfl⟩⟩))
          go_ret
          exact ⟨by first | rfl | (rw [hSL8.out]; first | rfl | simp) | (simp [errW_none, errW_some] <;> rfl) | (simp only [← hji2]; first | rfl | (simp [errW_none, errW_some] <;> rfl)) | (simp [*, errW_none, errW_some] <;> rfl), by repeat (first | (with_reducible first | exact HB.out | apply below_alloc | apply pw_below_drewN | apply below_drew1) | exact HB.out)⟩
        ·rw [if_neg c23] at H
         have c23b0 : (t241 == 0) = false := beq_eq_false_iff_ne.mpr c23
         have c23b1 : (t241 != 0) = true := bne_iff_ne.mpr c23
         obtain rfl := Option.some.inj H
         go_wp2_with (first | ((with_reducible refine gate_callee (f := 25) rfl ?_); refine goesL_ (some 32) rfl rfl Try.func25 (by kernel_rfl) rfl #[] rfl (by (try simp only [List.map_toArray, List.map_cons, List.map_nil]); first | done | rfl | (simp only [List.length_drop, List.length_take]; rfl)) ?_; (with_reducible refine (incipitlaw08_known.calls kj6  true _ A19.out).mono ?_); rintro e w39 ⟨rfl, hb⟩; refine ⟨_, rfl, ?_⟩; have n0_ := Aside0.mk (Kd.R_below (by (with_reducible repeat (first | apply Kd.R_alloc | apply Kd.R_drewN | apply Kd.R_drew)); exact HO_3.out) hb); have n1_ := Aside0.mk (below_step (by repeat (first | (with_reducible first | exact HB.out | apply below_alloc | apply pw_below_drewN | apply below_drew1) | exact HB.out)) hb); clear HO_3; clear HB; have HO_3 := n0_; have HB := n1_; clear n0_ n1_; (try clear hb); (try clear hb2); (try clear hk); (try clear hi); obtain ⟨Ao40, co40, eo40⟩ := Kd.R_slice HO_3.out; subst eo40) | (go_at_call 26; (with_reducible refine (extent_Check.calls kj6 _ _ t228 t241 _ ?side1 ?side2 A22.out).mono ?_); (case side1 => repeat (first | exact (Kd.R_reads' HO_3.out).2.2 | (with_reducible refine Kd.C_alloc ?_ _) | (with_reducible refine Kd.C_drewN ?_ _) | (with_reducible refine Kd.C_drew ?_))); (case side2 => exact (Kd.R_reads' HO_3.out).2.1); rintro e w41 ⟨rfl, hb⟩; have n0_ := Aside0.mk (Kd.R_below (by (with_reducible repeat (first | apply Kd.R_alloc | apply Kd.R_drewN | apply Kd.R_drew)); exact HO_3.out) hb); have n1_ := Aside0.mk (below_step (by repeat (first | (with_reducible first | exact HB.out | apply below_alloc | apply pw_below_drewN | apply below_drew1) | exact HB.out)) hb); clear HO_3; clear HB; have HO_3 := n0_; have HB := n1_; clear n0_ n1_; (try clear hb); (try clear hb2); (try clear hk); (try clear hi)))
         go_ret
         exact ⟨by first | rfl | (rw [hSL8.out]; first | rfl | simp) | (simp [errW_none, errW_some] <;> rfl) | (simp only [← hji2]; first | rfl | (simp [errW_none, errW_some] <;> rfl)) | (simp [*, errW_none, errW_some] <;> rfl), by repeat (first | (with_reducible first | exact HB.out | apply below_alloc | apply pw_below_drewN | apply below_drew1) | exact HB.out)⟩
       ·rw [if_neg c21] at H
        have c21b0 : (t233 == 0) = false := beq_eq_false_iff_ne.mpr c21
        have c21b1 : (t233 != 0) = true := bne_iff_ne.mpr c21
        obtain rfl := Option.some.inj H
        go_wp2_with (first | ((with_reducible refine gate_callee (f := 25) rfl ?_); refine goesL_ (some 32) rfl rfl Try.func25 (by kernel_rfl) rfl #[] rfl (by (try simp only [List.map_toArray, List.map_cons, List.map_nil]); first | done | rfl | (simp only [List.length_drop, List.length_take]; rfl)) ?_; (with_reducible refine (incipitlaw08_known.calls kj6  true _ A19.out).mono ?_); rintro e w42 ⟨rfl, hb⟩; refine ⟨_, rfl, ?_⟩; have n0_ := Aside0.mk (Kd.R_below (by (with_reducible repeat (first | apply Kd.R_alloc | apply Kd.R_drewN | apply Kd.R_drew)); exact HO_3.out) hb); have n1_ := Aside0.mk (below_step (by repeat (first | (with_reducible first | exact HB.out | apply below_alloc | apply pw_below_drewN | apply below_drew1) | exact HB.out)) hb); clear HO_3; clear HB; have HO_3 := n0_; have HB := n1_; clear n0_ n1_; (try clear hb); (try clear hb2); (try clear hk); (try clear hi)))
        go_ret
        exact ⟨by first | rfl | (rw [hSL8.out]; first | rfl | simp) | (simp [errW_none, errW_some] <;> rfl) | (simp only [← hji2]; first | rfl | (simp [errW_none, errW_some] <;> rfl)) | (simp [*, errW_none, errW_some] <;> rfl), by repeat (first | (with_reducible first | exact HB.out | apply below_alloc | apply pw_below_drewN | apply below_drew1) | exact HB.out)⟩
      ·replace c20 := Bool.eq_false_iff.mpr c20
       subst c20
       have H1 : (some false) = some r := by rw [if_neg (show ¬ (false = true) by decide)] at H; exact H
       clear H
       have H := H1
       clear H1
       obtain rfl := Option.some.inj H
       go_wp2_with (first | ((with_reducible refine gate_callee (f := 25) rfl ?_); refine goesL_ (some 32) rfl rfl Try.func25 (by kernel_rfl) rfl #[] rfl (by (try simp only [List.map_toArray, List.map_cons, List.map_nil]); first | done | rfl | (simp only [List.length_drop, List.length_take]; rfl)) ?_; (with_reducible refine (incipitlaw08_known.calls kj6  false _ A19.out).mono ?_); rintro e w43 ⟨rfl, hb⟩; refine ⟨_, rfl, ?_⟩; have n0_ := Aside0.mk (Kd.R_below (by (with_reducible repeat (first | apply Kd.R_alloc | apply Kd.R_drewN | apply Kd.R_drew)); exact HO_3.out) hb); have n1_ := Aside0.mk (below_step (by repeat (first | (with_reducible first | exact HB.out | apply below_alloc | apply pw_below_drewN | apply below_drew1) | exact HB.out)) hb); clear HO_3; clear HB; have HO_3 := n0_; have HB := n1_; clear n0_ n1_; (try clear hb); (try clear hb2); (try clear hk); (try clear hi)))
       go_ret
       exact ⟨by first | rfl | (rw [hSL8.out]; first | rfl | simp) | (simp [errW_none, errW_some] <;> rfl) | (simp only [← hji2]; first | rfl | (simp [errW_none, errW_some] <;> rfl)) | (simp [*, errW_none, errW_some] <;> rfl), by repeat (first | (with_reducible first | exact HB.out | apply below_alloc | apply pw_below_drewN | apply below_drew1) | exact HB.out)⟩
  ·rw [if_neg c4] at H
   exact absurd H (by simp)
 ·rw [if_neg c3] at H
  exact absurd H (by simp)

/-- THE ONE PURE STATEMENT of incipitlaw08_ExtentOf: yours. -/
def incipitlaw08_ExtentOf.Pure : Prop := ∀ (l0 : List Int), l0.length ≤ maxLen → l0.length * 8 ≤ 140737488351232 → (∀ x ∈ l0, (Lit.int .i64 x).wf = true) → ∃ k, incipitlaw08_ExtentOf.f k l0 = some true
theorem incipitlaw08_ExtentOf.walk (P : incipitlaw08_ExtentOf.Pure) (a0 : Option Addr) (len0 cap0 : Nat) (z0 : List Int) (w : World) (w0 : (a0 = none ∧ len0 = 0 ∧ cap0 = 0 ∧ z0 = []) ∨ ∃ x, a0 = some x ∧ len0 ≤ cap0 ∧ cap0 ≤ maxLen ∧ z0.length = cap0 ∧ (∀ i, i < z0.length → w.cell? (x.add i) = some (.int .i64 (z0.getD i 0))) ∧ ∀ n ∈ z0, (Lit.int .i64 n).wf = true) (y0 : len0 * 8 ≤ 140737488351232) :
  Calls Try.prog 4 #[.slice a0 len0 cap0] w fun e w' => e = .returned (.bool true) ∧ Below w.heap.size w w' := by
 obtain ⟨l0, rfl, hr0, hm0, hw0, hc0⟩ := ReadsInt.ofRowC w0
 obtain ⟨k, h⟩ := P l0 hm0 y0 hw0
 refine (incipitlaw08_ExtentOf.calls k _ _ l0 true w (Kd.C_of_reads (d := (0 : Int)) (h1 := fun _ => rfl) hr0) hc0 h).mono ?_
 rintro e w' ⟨rfl, hd⟩
 exact ⟨rfl, hd⟩

/-! ### incipitlaw08_To: function 54 -/
def incipitlaw08_To.l0 : Nat → List (S96) → List (S107) → Int → Option ((List (S107)))
 | 0, _, _, _ => none
 | k + 1, x0, x3, x4 => if x4 < (x0.length : Int) then (if x4 < 30 then (if 0 ≤ x4 then (if x3.length < 8796093022208 then (incipitlaw08_To.l0 k x0 (x3 ++ [(⟨(rd_T96 x0 x4).f0, (rd_T96 x0 x4).f1⟩ : S107)]) (wrap64 (x4 + 1))) else (none)) else (none)) else (some x3)) else (some x3)
def incipitlaw08_To.f (k : Nat) (l0 : List (S96)) : Option ((List (S107))) := incipitlaw08_To.l0 k l0 ([] : List (S107)) 0
theorem incipitlaw08_To.mono_l : ∀ k, (∀ y0 y1 y2, LeO (incipitlaw08_To.l0 k y0 y1 y2) (incipitlaw08_To.l0 (k + 1) y0 y1 y2))
 | 0 => fun _ _ _ r h => by simp [incipitlaw08_To.l0] at h
 | k + 1 => by
  have ih0 := incipitlaw08_To.mono_l k
  ·intro y0 y1 y2
   unfold incipitlaw08_To.l0
   repeat' first
   | (with_reducible exact ih0 _ _ _)
   | (with_reducible exact LeO.refl _)
   | (with_reducible exact LeO.none _)
   | (with_reducible refine LeO.ite ?_ ?_)
   | (with_reducible refine LeO.bind ?_ (fun _ => ?_))
   | exact ih0 _ _ _
   | exact LeO.none _
   | refine LeO.ite ?_ ?_
   | refine LeO.bind ?_ (fun _ => ?_)
theorem incipitlaw08_To.mono : ∀ a0 k, LeO (incipitlaw08_To.f k a0) (incipitlaw08_To.f (k + 1) a0) := by
 intro a0 k
 have ih0 := incipitlaw08_To.mono_l k
 unfold incipitlaw08_To.f
 repeat' first
   | (with_reducible exact ih0 _ _ _)
   | (with_reducible exact LeO.refl _)
   | (with_reducible exact LeO.none _)
   | (with_reducible refine LeO.ite ?_ ?_)
   | (with_reducible refine LeO.bind ?_ (fun _ => ?_))
   | exact ih0 _ _ _
   | exact LeO.none _
   | refine LeO.ite ?_ ?_
   | refine LeO.bind ?_ (fun _ => ?_)
def incipitlaw08_To.T5 : Bool × List (List Nat × List Nat) := (true, [([], []), ([], []), ([], []), ([1, 2], [1, 2]), ([3], [3]), ([4], [4]), ([], []), ([], []), ([6, 7], [6, 7]), ([8], [8]), ([9], [9]), ([5, 10], [5, 10]), ([11], [11]), ([0, 12], [0, 12]), ([13, 13, 0, 1, 2, 3, 4, 5, 6, 7, 8, 9, 10, 11, 12, 13], [0, 13])])
def incipitlaw08_To.B5 : List Nat := [0, 0, 0, 6, 14, 30, 0, 0, 192, 448, 960, 2046, 4094, 8191, 16383]
theorem incipitlaw08_To.tab5 : rtab .any (opsOf Try.f54 5) = incipitlaw08_To.T5 := by kernel_rfl
theorem incipitlaw08_To.bits5 : waitsOk incipitlaw08_To.T5.2 incipitlaw08_To.B5 = true := by kernel_rfl
set_option maxHeartbeats 8000000 in
set_option maxRecDepth 100000 in
theorem incipitlaw08_To.calls (k : Nat) (A0 : Option Addr) (c0 : Nat) (l0 : List (S96)) (r : List (S107)) (w : World) (hr0 : Kd.C k96 w A0 l0.length l0) (hc0 : l0.length ≤ c0) (h : incipitlaw08_To.f k l0 = some r) :
  Calls Try.prog 54 #[.slice A0 l0.length c0] w fun e w' => ∃ v0_ : Value, e = .returned (v0_) ∧ Kd.R k107 107 w' w.heap.size (fun _ => True) v0_ r ∧ Below w.heap.size w w' := by
 have hu107 := Try.underlying107
 have HR0 := Aside0.mk hr0
 have HC0 := Aside0.mk hc0
 clear hr0 hc0
 have HB := Aside0.mk (Below.refl w.heap.size w)
 have H : (incipitlaw08_To.l0 k l0 ([] : List (S107)) 0) = some r := h
 clear h
 have H' := Aside0.mk H
 clear H
 go_enter Try.func54, Try.ntmps54
 go_wp2
 go_loopg [3, 4] k (fun kq v3 v4 w' => ∃ (x3_1 : List (S107)) (x4_1 : Int), v4 = .int .i64 x4_1 ∧ Aside0 (incipitlaw08_To.l0 kq l0 x3_1 x4_1 = some r) ∧ Aside0 (kq ≤ k) ∧ Aside0 (Kd.R k107 107 w' w.heap.size (fun _ => True) v3 x3_1) ∧ Aside0 (Below w.heap.size w w'))
 case atStart => exact ⟨(([] : List (S107))), (0), (by first | rfl | (simp; done) | (simp [*]; done)), H', ⟨Nat.le_refl _⟩, ⟨by first | exact Kd.R_nil _ _ _ _ _ | exact Kd.N_nil _ _ _ _ _ | exact Kd.V_nil _ _ _ _ _ | exact Kd.Q_nil _ _ _ _ _ | exact Kd.S_nil _ _ _ _ _⟩, ⟨by repeat (first | (with_reducible first | exact HB.out | apply below_alloc | apply pw_below_drewN | apply below_drew1) | exact HB.out)⟩⟩
 case round =>
  clear H'
  obtain ⟨x3_1, x4_1, rfl, HA, HK1, HO_3, HB⟩ := hrel
  cases gk with
  | zero => exact absurd HA.out (by simp [incipitlaw08_To.l0])
  | succ k1 =>
   have H := HA.out
   clear HA
   simp only [incipitlaw08_To.l0] at H
   by_cases c2 : x4_1 < (l0.length : Int)
   ·rw [if_pos c2] at H
    have c2b0 : decide (x4_1 < (l0.length : Int)) = true := decide_eq_true c2
    clear c2
    by_cases c3 : x4_1 < 30
    ·rw [if_pos c3] at H
     have c3b0 : decide (x4_1 < 30) = true := decide_eq_true c3
     clear c3
     by_cases c4 : 0 ≤ x4_1
     ·rw [if_pos c4] at H
      have c4b0 : decide (0 ≤ x4_1) = true := decide_eq_true c4
      clear c4
      by_cases c5 : x3_1.length < 8796093022208
      ·rw [if_pos c5] at H
       have LMc5 := Aside0.mk c5
       clear c5
       obtain ⟨y249, hy249⟩ : ∃ y_ : List (S107), y_ = (x3_1 ++ [(⟨(rd_T96 l0 x4_1).f0, (rd_T96 l0 x4_1).f1⟩ : S107)]) := ⟨_, rfl⟩
       replace H : (incipitlaw08_To.l0 k1 l0 y249 (wrap64 (x4_1 + 1))) = some r := by first | (rw [hy249]; with_reducible exact H) | (have H2_ := (Option.bind_some _ _).symm.trans H; rw [hy249]; with_reducible exact H2_) | (have H2_ := (Option.bind_some _ _).symm.trans H; with_reducible exact H2_) | with_reducible exact H | (rw [hy249]; exact H) | exact H
       have Ny249 := Aside0.mk hy249
       clear hy249
       have H' := Aside0.mk H
       clear H
       try go_wp2
       have n0_ := Aside0.mk (Kd.R_drew HO_3.out)
       have n1_ := Aside0.mk (below_drew1 HB.out)
       clear HO_3
       clear HB
       have HO_3 := n0_
       have HB := n1_
       clear n0_ n1_
       have p247 : 0 ≤ (x4_1 : Int) := of_decide_eq_true (by first | (with_reducible assumption) | assumption)
       have q247 : x4_1 < (l0.length : Int) := of_decide_eq_true (by first | (with_reducible assumption) | assumption)
       obtain ⟨ad247, e247, hx247_0, hx247_1⟩ := at_T96 HR0.out x4_1 p247 q247
       have hw247_1 := hx247_1
       have hw247_0 := hx247_0
       cases e247
       replace hx247_0 := (HB.out.cell (World.block_lt_of_cell? w _ hx247_0)).trans hx247_0
       replace hx247_1 := (HB.out.cell (World.block_lt_of_cell? w _ hx247_1)).trans hx247_1
       replace p247 := eq_true p247
       replace q247 := eq_true q247
       have p248 : 0 ≤ (x4_1 : Int) := of_decide_eq_true (by first | (with_reducible assumption) | assumption)
       have q248 : x4_1 < (l0.length : Int) := of_decide_eq_true (by first | (with_reducible assumption) | assumption)
       obtain ⟨ad248, e248, hx248_0, hx248_1⟩ := at_T96 HR0.out x4_1 p248 q248
       have hw248_1 := hx248_1
       have hw248_0 := hx248_0
       obtain rfl : ad247 = ad248 := (by injection e248)
       replace hx248_0 := (HB.out.cell (World.block_lt_of_cell? w _ hx248_0)).trans hx248_0
       replace hx248_1 := (HB.out.cell (World.block_lt_of_cell? w _ hx248_1)).trans hx248_1
       replace p248 := eq_true p248
       replace q248 := eq_true q248
       refine start_ (n := 15) (S := fun w' => w'.cell? (ad247.add ((x4_1).toNat * 2)) = some (.int .i64 ((rd_T96 l0 x4_1).f0)) ∧ w'.cell? ⟨(ad247.add ((x4_1).toNat * 2)).block, (ad247.add ((x4_1).toNat * 2)).off + 1, none⟩ = some (.int .i64 ((rd_T96 l0 x4_1).f1)) ∧ w'.cell? (ad247.add ((x4_1).toNat * 2)) = some (.int .i64 ((rd_T96 l0 x4_1).f0)) ∧ w'.cell? ⟨(ad247.add ((x4_1).toNat * 2)).block, (ad247.add ((x4_1).toNat * 2)).off + 1, none⟩ = some (.int .i64 ((rd_T96 l0 x4_1).f1))) (ds := []) #[false, false, false, false, false, false, false, false, false, false, false, false, false, false, false] (by kernel_rfl) rfl rfl ⟨((HB.out.cell (World.block_lt_of_cell? w _ hw247_0)).trans hw247_0), ((HB.out.cell (World.block_lt_of_cell? w _ hw247_1)).trans hw247_1), ((HB.out.cell (World.block_lt_of_cell? w _ hw248_0)).trans hw248_0), ((HB.out.cell (World.block_lt_of_cell? w _ hw248_1)).trans hw248_1)⟩ (fun hHeld => ?_); refine with_tabW incipitlaw08_To.tab5 incipitlaw08_To.bits5 (fun HT_ HW_ => ?_)
       generalize wr.drew = w6 at HO_3 HB hx247_0 hx247_1 hx248_0 hx248_1 hHeld ⊢
       refine pure_ (i := 0) (N := some 15) (v := ?_) (a' := ?_) #[true, false, false, false, false, false, false, false, false, false, false, false, false, false, false] rfl rfl (any_of HT_.out (by kernel_rfl)) (fun _ _ _ h => h) (Or.inl ⟨by rfl, ?_⟩) ?_ ?_
       rotate_left
       ·intro w'
        go_simp
        with_reducible rfl
       rotate_left
       ·simp only [Act.put, List.setIfInBounds_toArray, List.set_cons_zero, List.set_cons_succ, i64_w, i32_w]
        rfl
       refine pure_ (i := 1) (N := some 16) (v := ?_) (a' := ?_) #[true, true, false, false, false, false, false, false, false, false, false, false, false, false, false] rfl rfl (any_of HT_.out (by kernel_rfl)) (fun _ _ _ h => h) (Or.inl ⟨by rfl, ?_⟩) ?_ ?_
       rotate_left
       ·intro w'
        go_simp
        with_reducible rfl
       rotate_left
       ·simp only [Act.put, List.setIfInBounds_toArray, List.set_cons_zero, List.set_cons_succ, i64_w, i32_w]
        rfl
       refine pure_ (i := 2) (N := some 17) (v := ?_) (a' := ?_) #[true, true, true, false, false, false, false, false, false, false, false, false, false, false, false] rfl rfl (any_of HT_.out (by kernel_rfl)) (fun _ _ _ h => h) (Or.inl ⟨by rfl, ?_⟩) ?_ ?_
       rotate_left
       ·intro w'
        go_simp
        with_reducible rfl
       rotate_left
       ·simp only [Act.put, List.setIfInBounds_toArray, List.set_cons_zero, List.set_cons_succ, i64_w, i32_w]
        rfl
       refine pure_ (i := 3) (N := some 18) (v := ?_) (a' := ?_) #[true, true, true, true, false, false, false, false, false, false, false, false, false, false, false] rfl rfl (any_of HT_.out (by kernel_rfl)) (fun _ _ _ h => h) (Or.inl ⟨by rfl, ?_⟩) ?_ ?_
       rotate_left
       ·intro w'
        go_simp
        with_reducible rfl
       rotate_left
       ·simp only [Act.put, List.setIfInBounds_toArray, List.set_cons_zero, List.set_cons_succ, i64_w, i32_w]
        rfl
       refine pure_ (i := 4) (N := some 19) (v := ?_) (a' := ?_) #[true, true, true, true, true, false, false, false, false, false, false, false, false, false, false] rfl rfl (any_of HT_.out (by kernel_rfl)) (fun _ _ _ h => h) (Or.inl ⟨by rfl, ?_⟩) ?_ ?_
       rotate_left
       ·intro w'
        go_simp
        with_reducible rfl
       rotate_left
       ·simp only [Act.put, List.setIfInBounds_toArray, List.set_cons_zero, List.set_cons_succ, i64_w, i32_w]
        rfl
       refine pure_ (i := 6) (N := some 21) (v := ?_) (a' := ?_) #[true, true, true, true, true, false, true, false, false, false, false, false, false, false, false] rfl rfl (any_of HT_.out (by kernel_rfl)) (fun _ _ _ h => h) (Or.inl ⟨by rfl, ?_⟩) ?_ ?_
       rotate_left
       ·intro w'
        go_simp
        with_reducible rfl
       rotate_left
       ·simp only [Act.put, List.setIfInBounds_toArray, List.set_cons_zero, List.set_cons_succ, i64_w, i32_w]
        rfl
       refine pure_ (i := 7) (N := some 22) (v := ?_) (a' := ?_) #[true, true, true, true, true, false, true, true, false, false, false, false, false, false, false] rfl rfl (any_of HT_.out (by kernel_rfl)) (fun _ _ _ h => h) (Or.inl ⟨by rfl, ?_⟩) ?_ ?_
       rotate_left
       ·intro w'
        go_simp
        with_reducible rfl
       rotate_left
       ·simp only [Act.put, List.setIfInBounds_toArray, List.set_cons_zero, List.set_cons_succ, i64_w, i32_w]
        rfl
       refine pure_ (i := 8) (N := some 23) (v := ?_) (a' := ?_) #[true, true, true, true, true, false, true, true, true, false, false, false, false, false, false] rfl rfl (any_of HT_.out (by kernel_rfl)) (fun _ _ _ h => h) (Or.inl ⟨by rfl, ?_⟩) ?_ ?_
       rotate_left
       ·intro w'
        go_simp
        with_reducible rfl
       rotate_left
       ·simp only [Act.put, List.setIfInBounds_toArray, List.set_cons_zero, List.set_cons_succ, i64_w, i32_w]
        rfl
       refine pure_ (i := 9) (N := some 24) (v := ?_) (a' := ?_) #[true, true, true, true, true, false, true, true, true, true, false, false, false, false, false] rfl rfl (any_of HT_.out (by kernel_rfl)) (fun _ _ _ h => h) (Or.inl ⟨by rfl, ?_⟩) ?_ ?_
       rotate_left
       ·intro w'
        go_simp
        with_reducible rfl
       rotate_left
       ·simp only [Act.put, List.setIfInBounds_toArray, List.set_cons_zero, List.set_cons_succ, i64_w, i32_w]
        rfl
       refine take_ (i := 5) (N := some 20) (v := ?_) (a' := ?_) #[true, true, true, true, true, true, true, true, true, true, false, false, false, false, false] rfl rfl (take_ofW HT_.out HW_.out (by kernel_rfl)) (fun _ _ _ h => h) (Or.inl ⟨by rfl, ?_⟩) hHeld ?_ ?_
       rotate_left
       ·rintro w' ⟨s0, s1, s2, s3⟩
        go_simp
        with_reducible rfl
       rotate_left
       ·simp only [Act.put, List.setIfInBounds_toArray, List.set_cons_zero, List.set_cons_succ, i64_w, i32_w]
        rfl
       refine take_ (i := 10) (N := some 25) (v := ?_) (a' := ?_) #[true, true, true, true, true, true, true, true, true, true, true, false, false, false, false] rfl rfl (take_ofW HT_.out HW_.out (by kernel_rfl)) (fun _ _ _ h => h) (Or.inl ⟨by rfl, ?_⟩) hHeld ?_ ?_
       rotate_left
       ·rintro w' ⟨s0, s1, s2, s3⟩
        go_simp
        with_reducible rfl
       rotate_left
       ·simp only [Act.put, List.setIfInBounds_toArray, List.set_cons_zero, List.set_cons_succ, i64_w, i32_w]
        rfl
       refine pure_ (i := 11) (N := some 26) (v := ?_) (a' := ?_) #[true, true, true, true, true, true, true, true, true, true, true, true, false, false, false] rfl rfl (any_of HT_.out (by kernel_rfl)) (fun _ _ _ h => h) (Or.inl ⟨by rfl, ?_⟩) ?_ ?_
       rotate_left
       ·intro w'
        go_simp
        with_reducible rfl
       rotate_left
       ·simp only [Act.put, List.setIfInBounds_toArray, List.set_cons_zero, List.set_cons_succ, i64_w, i32_w]
        rfl
       refine one_ (i := 12) (N := some 27) #[true, true, true, true, true, true, true, true, true, true, true, true, true, false, false] rfl rfl (one_of HT_.out (by kernel_rfl)) (by decide) (fun K hK => ?_)
       refine value_ (w1 := ?_) (v := ?_) (by rfl) rfl ?_ ?_
       rotate_left 2
       ·go_simp
        constructor
        ·rfl
        ·rfl
       refine hK.out _ _ ⟨(World.cell?_alloc_lt _ _ _ (World.block_lt_of_cell? _ _ (((HB.out.cell (World.block_lt_of_cell? w _ hw247_0)).trans hw247_0)))).trans (((HB.out.cell (World.block_lt_of_cell? w _ hw247_0)).trans hw247_0)), (World.cell?_alloc_lt _ _ _ (World.block_lt_of_cell? _ _ (((HB.out.cell (World.block_lt_of_cell? w _ hw247_1)).trans hw247_1)))).trans (((HB.out.cell (World.block_lt_of_cell? w _ hw247_1)).trans hw247_1)), (World.cell?_alloc_lt _ _ _ (World.block_lt_of_cell? _ _ (((HB.out.cell (World.block_lt_of_cell? w _ hw248_0)).trans hw248_0)))).trans (((HB.out.cell (World.block_lt_of_cell? w _ hw248_0)).trans hw248_0)), (World.cell?_alloc_lt _ _ _ (World.block_lt_of_cell? _ _ (((HB.out.cell (World.block_lt_of_cell? w _ hw248_1)).trans hw248_1)))).trans (((HB.out.cell (World.block_lt_of_cell? w _ hw248_1)).trans hw248_1))⟩ (fun hHeld => ?_)
       clear hK K
       refine norm_ (a' := ?_) ?_ ?_
       rotate_left
       ·show Act.put _ (some 27) _ = _
        simp only [Act.put, List.setIfInBounds_toArray, List.set_cons_zero, List.set_cons_succ, i64_w, i32_w]
        rfl
       refine one_ (i := 13) (N := some 28) #[true, true, true, true, true, true, true, true, true, true, true, true, true, true, false] rfl rfl (one_of HT_.out (by kernel_rfl)) (by decide) (fun K hK => ?_)
       refine Kd.R_append_step k107 (w0 := w) w.heap.size (by rfl) (.tmp 15) (.tmp 27) 37 107 (.agg #[(.int .i64 0), (.int .i64 0)]) 16 rfl Try.underlying37 info107 rfl (by decide) (by omega) u3 x3_1 (⟨(rd_T96 l0 x4_1).f0, (rd_T96 l0 x4_1).f1⟩ : S107) [.int .i64 ((rd_T96 l0 x4_1).f0), .int .i64 ((rd_T96 l0 x4_1).f1)] (fun _ => True) (fun _ => False) rfl rfl ?aP (fun _ hk => hk.elim) ?aF ?aO ?aB ?aS ?aL ?_
       (case aP => exact k107_mkM _ _ _ (⟨(rd_T96 l0 x4_1).f0, (rd_T96 l0 x4_1).f1⟩ : S107))
       (case aB => exact (by repeat (first | (with_reducible first | exact HB.out | apply below_alloc | apply pw_below_drewN | apply below_drew1) | exact HB.out)))
       (case aF => exact (fun _ _ => trivial))
       (case aO => exact (by (with_reducible repeat (first | apply Kd.R_alloc | apply Kd.R_drewN | apply Kd.R_drew)); exact HO_3.out))
       (case aS => exact (below_size (by repeat (first | (with_reducible first | exact HB.out | apply below_alloc | apply pw_below_drewN | apply below_drew1) | exact HB.out))))
       (case aL => have := LMc5.out; omega)
       intro v250 w7 ho hb hg hat
       rw [← Ny249.out] at ho
       have n0_ := Aside0.mk (hb)
       have n1_ := Aside0.mk (ho)
       clear HB
       clear HO_3
       have HB := n0_
       have HO251 := n1_
       clear n0_ n1_
       clear ho hb hg hat
       refine hK.out _ _ ⟨((HB.out.cell (World.block_lt_of_cell? w _ hw247_0)).trans hw247_0), ((HB.out.cell (World.block_lt_of_cell? w _ hw247_1)).trans hw247_1), ((HB.out.cell (World.block_lt_of_cell? w _ hw248_0)).trans hw248_0), ((HB.out.cell (World.block_lt_of_cell? w _ hw248_1)).trans hw248_1)⟩ (fun hHeld => ?_)
       clear hK K
       refine norm_ (a' := ?_) ?_ ?_
       rotate_left
       ·show Act.put _ (some 28) _ = _
        simp only [Act.put, List.setIfInBounds_toArray, List.set_cons_zero, List.set_cons_succ, i64_w, i32_w]
        rfl
       refine pure_ (i := 14) (N := some 3) (v := ?_) (a' := ?_) #[true, true, true, true, true, true, true, true, true, true, true, true, true, true, true] rfl rfl (any_of HT_.out (by kernel_rfl)) (fun _ _ _ h => h) (Or.inl ⟨by rfl, ?_⟩) ?_ ?_
       rotate_left
       ·intro w'
        go_simp
        with_reducible rfl
       rotate_left
       ·simp only [Act.put, List.setIfInBounds_toArray, List.set_cons_zero, List.set_cons_succ, i64_w, i32_w]
        rfl
       refine done_ (done_of HT_.out (by kernel_rfl)) ?_
       try go_wp2
       go_roundg k1
       case measure => have := HK1.out; omega
       case rel => exact ⟨(y249), (wrap64 (x4_1 + 1)), (by first | rfl | (simp; done) | (simp [*]; done)), H', ⟨by have := HK1.out; omega⟩, ⟨by (with_reducible repeat (first | apply Kd.R_alloc | apply Kd.R_drewN | apply Kd.R_drew)); exact HO251.out⟩, ⟨by repeat (first | (with_reducible first | exact HB.out | apply below_alloc | apply pw_below_drewN | apply below_drew1) | exact HB.out)⟩⟩
      ·rw [if_neg c5] at H
       exact absurd H (by simp)
     ·rw [if_neg c4] at H
      exact absurd H (by simp)
    ·rw [if_neg c3] at H
     have c3b0 : decide (x4_1 < 30) = false := decide_eq_false c3
     clear c3
     obtain rfl := Option.some.inj H
     go_wp2
     go_ret
     exact ⟨_, by first | rfl | (simp [errW_none, errW_some] <;> rfl) | (simp [*, errW_none, errW_some] <;> rfl), by (with_reducible repeat (first | apply Kd.R_alloc | apply Kd.R_drewN | apply Kd.R_drew)); exact HO_3.out, by repeat (first | (with_reducible first | exact HB.out | apply below_alloc | apply pw_below_drewN | apply below_drew1) | exact HB.out)⟩
   ·rw [if_neg c2] at H
    have c2b0 : decide (x4_1 < (l0.length : Int)) = false := decide_eq_false c2
    clear c2
    obtain rfl := Option.some.inj H
    go_wp2
    go_ret
    exact ⟨_, by first | rfl | (simp [errW_none, errW_some] <;> rfl) | (simp [*, errW_none, errW_some] <;> rfl), by (with_reducible repeat (first | apply Kd.R_alloc | apply Kd.R_drewN | apply Kd.R_drew)); exact HO_3.out, by repeat (first | (with_reducible first | exact HB.out | apply below_alloc | apply pw_below_drewN | apply below_drew1) | exact HB.out)⟩

/-! ### incipitref08_All: function 59 -/
mutual
def incipitref08_All.l0 : Nat → List (S96) → List Int → Int → Option (List Int)
 | 0, _, _, _ => none
 | k + 1, x0, x3, x4 => if x4 < (x0.length : Int) then (incipitref08_All.l1 k x0 x3 x4 0) else (some x3)
def incipitref08_All.l1 : Nat → List (S96) → List Int → Int → Int → Option (List Int)
 | 0, _, _, _, _ => none
 | k + 1, x0, x3, x4, x5 => if 0 ≤ x4 then (if x4 < (x0.length : Int) then (if x5 < ((rd_T96 x0 x4).f1) then (if x3.length < 17592186044416 then (incipitref08_All.l1 k x0 (x3 ++ [wrap64 (((rd_T96 x0 x4).f0) + x5)]) x4 (wrap64 (x5 + 1))) else (none)) else (incipitref08_All.l0 k x0 x3 (wrap64 (x4 + 1)))) else (none)) else (none)
end
def incipitref08_All.f (k : Nat) (l0 : List (S96)) : Option (List Int) := incipitref08_All.l0 k l0 ([] : List Int) 0
theorem incipitref08_All.mono_l : ∀ k, (∀ y0 y1 y2, LeO (incipitref08_All.l0 k y0 y1 y2) (incipitref08_All.l0 (k + 1) y0 y1 y2)) ∧ (∀ y0 y1 y2 y3, LeO (incipitref08_All.l1 k y0 y1 y2 y3) (incipitref08_All.l1 (k + 1) y0 y1 y2 y3))
 | 0 => ⟨fun _ _ _ r h => by simp [incipitref08_All.l0] at h, fun _ _ _ _ r h => by simp [incipitref08_All.l1] at h⟩
 | k + 1 => by
  obtain ⟨ih0, ih1⟩ := incipitref08_All.mono_l k
  refine ⟨?_, ?_⟩
  ·intro y0 y1 y2
   unfold incipitref08_All.l0
   repeat' first
   | (with_reducible exact ih0 _ _ _)
   | (with_reducible exact ih1 _ _ _ _)
   | (with_reducible exact LeO.refl _)
   | (with_reducible exact LeO.none _)
   | (with_reducible refine LeO.ite ?_ ?_)
   | (with_reducible refine LeO.bind ?_ (fun _ => ?_))
   | exact ih0 _ _ _
   | exact ih1 _ _ _ _
   | exact LeO.none _
   | refine LeO.ite ?_ ?_
   | refine LeO.bind ?_ (fun _ => ?_)
  ·intro y0 y1 y2 y3
   unfold incipitref08_All.l1
   repeat' first
   | (with_reducible exact ih0 _ _ _)
   | (with_reducible exact ih1 _ _ _ _)
   | (with_reducible exact LeO.refl _)
   | (with_reducible exact LeO.none _)
   | (with_reducible refine LeO.ite ?_ ?_)
   | (with_reducible refine LeO.bind ?_ (fun _ => ?_))
   | exact ih0 _ _ _
   | exact ih1 _ _ _ _
   | exact LeO.none _
   | refine LeO.ite ?_ ?_
   | refine LeO.bind ?_ (fun _ => ?_)
theorem incipitref08_All.mono : ∀ a0 k, LeO (incipitref08_All.f k a0) (incipitref08_All.f (k + 1) a0) := by
 intro a0 k
 obtain ⟨ih0, ih1⟩ := incipitref08_All.mono_l k
 unfold incipitref08_All.f
 repeat' first
   | (with_reducible exact ih0 _ _ _)
   | (with_reducible exact ih1 _ _ _ _)
   | (with_reducible exact LeO.refl _)
   | (with_reducible exact LeO.none _)
   | (with_reducible refine LeO.ite ?_ ?_)
   | (with_reducible refine LeO.bind ?_ (fun _ => ?_))
   | exact ih0 _ _ _
   | exact ih1 _ _ _ _
   | exact LeO.none _
   | refine LeO.ite ?_ ?_
   | refine LeO.bind ?_ (fun _ => ?_)
set_option maxHeartbeats 8000000 in
set_option maxRecDepth 100000 in
theorem incipitref08_All.calls (k : Nat) (A0 : Option Addr) (c0 : Nat) (l0 : List (S96)) (r : List Int) (w : World) (hr0 : Kd.C k96 w A0 l0.length l0) (hc0 : l0.length ≤ c0) (h : incipitref08_All.f k l0 = some r) :
  Calls Try.prog 59 #[.slice A0 l0.length c0] w fun e w' => ∃ v0_ : Value, e = .returned (v0_) ∧ Kd.R (Kd.int .i64) 3 w' w.heap.size (fun _ => True) v0_ r ∧ Below w.heap.size w w' := by
 have HR0 := Aside0.mk hr0
 have HC0 := Aside0.mk hc0
 clear hr0 hc0
 have HB := Aside0.mk (Below.refl w.heap.size w)
 have H : (incipitref08_All.l0 k l0 ([] : List Int) 0) = some r := h
 clear h
 have H' := Aside0.mk H
 clear H
 go_enter Try.func59, Try.ntmps59
 go_wp2
 go_loopg [3, 4] k (fun kq v3 v4 w' => ∃ (x3_1 : List Int) (x4_1 : Int), v4 = .int .i64 x4_1 ∧ Aside0 (incipitref08_All.l0 kq l0 x3_1 x4_1 = some r) ∧ Aside0 (kq ≤ k) ∧ Aside0 (Kd.R (Kd.int .i64) 3 w' w.heap.size (fun _ => True) v3 x3_1) ∧ Aside0 (Below w.heap.size w w'))
 case atStart => exact ⟨(([] : List Int)), (0), (by first | rfl | (simp; done) | (simp [*]; done)), H', ⟨Nat.le_refl _⟩, ⟨by first | exact Kd.R_nil _ _ _ _ _ | exact Kd.N_nil _ _ _ _ _ | exact Kd.V_nil _ _ _ _ _ | exact Kd.Q_nil _ _ _ _ _ | exact Kd.S_nil _ _ _ _ _⟩, ⟨by repeat (first | (with_reducible first | exact HB.out | apply below_alloc | apply pw_below_drewN | apply below_drew1) | exact HB.out)⟩⟩
 case round =>
  clear H'
  obtain ⟨x3_1, x4_1, rfl, HA, HK1, HO_3, HB⟩ := hrel
  cases gk with
  | zero => exact absurd HA.out (by simp [incipitref08_All.l0])
  | succ k1 =>
   have H := HA.out
   clear HA
   simp only [incipitref08_All.l0] at H
   by_cases c2 : x4_1 < (l0.length : Int)
   ·rw [if_pos c2] at H
    have c2b0 : decide (x4_1 < (l0.length : Int)) = true := decide_eq_true c2
    clear c2
    have H' := Aside0.mk H
    clear H
    go_wp2
    go_loopg [3, 5] k1 (fun kq v3 v5 w' => ∃ (x3_2 : List Int) (x5_2 : Int), v5 = .int .i64 x5_2 ∧ Aside0 (incipitref08_All.l1 kq l0 x3_2 x4_1 x5_2 = some r) ∧ Aside0 (kq ≤ k1) ∧ Aside0 (Kd.R (Kd.int .i64) 3 w' w.heap.size (fun _ => True) v3 x3_2) ∧ Aside0 (Below w.heap.size w w'))
    case atStart => exact ⟨(x3_1), (0), (by first | rfl | (simp; done) | (simp [*]; done)), H', ⟨Nat.le_refl _⟩, ⟨by (with_reducible repeat (first | apply Kd.R_alloc | apply Kd.R_drewN | apply Kd.R_drew)); exact HO_3.out⟩, ⟨by repeat (first | (with_reducible first | exact HB.out | apply below_alloc | apply pw_below_drewN | apply below_drew1) | exact HB.out)⟩⟩
    case round =>
     clear H'
     try clear c2
     try clear c2b0
     try clear p2
     obtain ⟨x3_2, x5_2, rfl, HA, HK2, HO_3, HB⟩ := hrel
     cases gk with
     | zero => exact absurd HA.out (by simp [incipitref08_All.l1])
     | succ k2 =>
      have H := HA.out
      clear HA
      simp only [incipitref08_All.l1] at H
      by_cases c3 : 0 ≤ x4_1
      ·rw [if_pos c3] at H
       have c3b0 : decide (0 ≤ x4_1) = true := decide_eq_true c3
       clear c3
       by_cases c4 : x4_1 < (l0.length : Int)
       ·rw [if_pos c4] at H
        have c4b0 : decide (x4_1 < (l0.length : Int)) = true := decide_eq_true c4
        clear c4
        by_cases c5 : x5_2 < ((rd_T96 l0 x4_1).f1)
        ·rw [if_pos c5] at H
         have c5b0 : decide (x5_2 < ((rd_T96 l0 x4_1).f1)) = true := decide_eq_true c5
         clear c5
         by_cases c6 : x3_2.length < 17592186044416
         ·rw [if_pos c6] at H
          have LMc6 := Aside0.mk c6
          clear c6
          obtain ⟨y254, hy254⟩ : ∃ y_ : List Int, y_ = (x3_2 ++ [wrap64 (((rd_T96 l0 x4_1).f0) + x5_2)]) := ⟨_, rfl⟩
          replace H : (incipitref08_All.l1 k2 l0 y254 x4_1 (wrap64 (x5_2 + 1))) = some r := by first | (rw [hy254]; with_reducible exact H) | (have H2_ := (Option.bind_some _ _).symm.trans H; rw [hy254]; with_reducible exact H2_) | (have H2_ := (Option.bind_some _ _).symm.trans H; with_reducible exact H2_) | with_reducible exact H | (rw [hy254]; exact H) | exact H
          have Ny254 := Aside0.mk hy254
          clear hy254
          have H' := Aside0.mk H
          clear H
          have p252 : 0 ≤ (x4_1 : Int) := of_decide_eq_true (by first | (with_reducible assumption) | assumption)
          have q252 : x4_1 < (l0.length : Int) := of_decide_eq_true (by first | (with_reducible assumption) | assumption)
          obtain ⟨ad252, e252, hx252_0, hx252_1⟩ := at_T96 HR0.out x4_1 p252 q252
          cases e252
          replace hx252_0 := (HB.out.cell (World.block_lt_of_cell? w _ hx252_0)).trans hx252_0
          replace hx252_1 := (HB.out.cell (World.block_lt_of_cell? w _ hx252_1)).trans hx252_1
          replace p252 := eq_true p252
          replace q252 := eq_true q252
          have p253 : 0 ≤ (x4_1 : Int) := of_decide_eq_true (by first | (with_reducible assumption) | assumption)
          have q253 : x4_1 < (l0.length : Int) := of_decide_eq_true (by first | (with_reducible assumption) | assumption)
          obtain ⟨ad253, e253, hx253_0, hx253_1⟩ := at_T96 HR0.out x4_1 p253 q253
          obtain rfl : ad252 = ad253 := (by injection e253)
          replace hx253_0 := (HB.out.cell (World.block_lt_of_cell? w _ hx253_0)).trans hx253_0
          replace hx253_1 := (HB.out.cell (World.block_lt_of_cell? w _ hx253_1)).trans hx253_1
          replace p253 := eq_true p253
          replace q253 := eq_true q253
          go_wp2_with (first | ((with_reducible refine gate_builtin (b := .append) (xs := #[.tmp 21, .tmp 29]) rfl ?_); at_builtin; refine Kd.R_append (Kd.int .i64) (w0 := w) w.heap.size rfl (.tmp 21) (.tmp 29) 23 3 (.int .i64 0) 8 rfl Try.underlying23 info3 rfl (by decide) (by omega) u3 x3_2 (wrap64 (((rd_T96 l0 x4_1).f0) + x5_2)) [.int .i64 (wrap64 (((rd_T96 l0 x4_1).f0) + x5_2))] (fun _ => True) (fun _ => False) rfl rfl ?aP (fun _ hk => hk.elim) ?aF ?aO ?aB ?aS ?aL ?_; (case aP => exact rfl); (case aB => exact (by repeat (first | (with_reducible first | exact HB.out | apply below_alloc | apply pw_below_drewN | apply below_drew1) | exact HB.out))); (case aF => exact (fun _ _ => trivial)); (case aO => exact (by (with_reducible repeat (first | apply Kd.R_alloc | apply Kd.R_drewN | apply Kd.R_drew)); exact HO_3.out)); (case aS => exact (below_size (by repeat (first | (with_reducible first | exact HB.out | apply below_alloc | apply pw_below_drewN | apply below_drew1) | exact HB.out)))); (case aL => have := LMc6.out; omega); intro v255 w7 ho hb hg hat; rw [← Ny254.out] at ho; have n0_ := Aside0.mk (hb); have n1_ := Aside0.mk (ho); clear HB; clear HO_3; have HB := n0_; have HO256 := n1_; clear n0_ n1_; clear ho hb hg hat))
          go_roundg k2
          case measure => have := HK1.out; have := HK2.out; omega
          case rel => exact ⟨(y254), (wrap64 (x5_2 + 1)), (by first | rfl | (simp; done) | (simp [*]; done)), H', ⟨by have := HK1.out; have := HK2.out; omega⟩, ⟨by (with_reducible repeat (first | apply Kd.R_alloc | apply Kd.R_drewN | apply Kd.R_drew)); exact HO256.out⟩, ⟨by repeat (first | (with_reducible first | exact HB.out | apply below_alloc | apply pw_below_drewN | apply below_drew1) | exact HB.out)⟩⟩
         ·rw [if_neg c6] at H
          exact absurd H (by simp)
        ·rw [if_neg c5] at H
         have c5b0 : decide (x5_2 < ((rd_T96 l0 x4_1).f1)) = false := decide_eq_false c5
         clear c5
         have H' := Aside0.mk H
         clear H
         have p252 : 0 ≤ (x4_1 : Int) := of_decide_eq_true (by first | (with_reducible assumption) | assumption)
         have q252 : x4_1 < (l0.length : Int) := of_decide_eq_true (by first | (with_reducible assumption) | assumption)
         obtain ⟨ad252, e252, hx252_0, hx252_1⟩ := at_T96 HR0.out x4_1 p252 q252
         cases e252
         replace hx252_0 := (HB.out.cell (World.block_lt_of_cell? w _ hx252_0)).trans hx252_0
         replace hx252_1 := (HB.out.cell (World.block_lt_of_cell? w _ hx252_1)).trans hx252_1
         replace p252 := eq_true p252
         replace q252 := eq_true q252
         go_wp2
         go_roundg k2
         case measure => have := HK1.out; have := HK2.out; omega
         case rel => exact ⟨(x3_2), (wrap64 (x4_1 + 1)), (by first | rfl | (simp; done) | (simp [*]; done)), H', ⟨by have := HK1.out; have := HK2.out; omega⟩, ⟨by (with_reducible repeat (first | apply Kd.R_alloc | apply Kd.R_drewN | apply Kd.R_drew)); exact HO_3.out⟩, ⟨by repeat (first | (with_reducible first | exact HB.out | apply below_alloc | apply pw_below_drewN | apply below_drew1) | exact HB.out)⟩⟩
       ·rw [if_neg c4] at H
        exact absurd H (by simp)
      ·rw [if_neg c3] at H
       exact absurd H (by simp)
   ·rw [if_neg c2] at H
    have c2b0 : decide (x4_1 < (l0.length : Int)) = false := decide_eq_false c2
    clear c2
    obtain rfl := Option.some.inj H
    go_wp2
    go_ret
    exact ⟨_, by first | rfl | (simp [errW_none, errW_some] <;> rfl) | (simp [*, errW_none, errW_some] <;> rfl), by (with_reducible repeat (first | apply Kd.R_alloc | apply Kd.R_drewN | apply Kd.R_drew)); exact HO_3.out, by repeat (first | (with_reducible first | exact HB.out | apply below_alloc | apply pw_below_drewN | apply below_drew1) | exact HB.out)⟩

end Go.Proofs.Ytneliajeokajbaa.PExt
