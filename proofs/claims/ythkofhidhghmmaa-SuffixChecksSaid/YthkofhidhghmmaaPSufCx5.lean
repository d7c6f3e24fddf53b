-- Written by a program of this session (wip/tools/pp.sh, on the pattern of the kit's print): not typed by hand.
import Derived.Test.YthkofhidhghmmaaPSufCx0
import Derived.Test.YthkofhidhghmmaaPSufCx1
import Derived.Test.YthkofhidhghmmaaPSufCx3
namespace Go.Proofs.Ythkofhidhghmmaa.PSufC
open Go.RowKit Go.Proofs.YthkofhidhghmmaaW.PrintWords Go.Proofs.YthkofhidhghmmaaW.PrintLast Go.Proofs.YthkofhidhghmmaaW.PrintMore
attribute [local go_sem] max2_int min2_int max_two min_two max_three min_three max_four min_four   -- for this text's walks alone
set_option linter.unusedVariables false
set_option linter.unusedSimpArgs false

/-! ### suffix_place: function 53 -/
def suffix_place.l0 : Nat → List Int → List Int → Int → Int → Option (Int)
 | 0, _, _, _, _ => none
 | k + 1, x0, x13, x14, x15 => if x15 < x14 then (if 0 ≤ x15 then (if x15 < (x13.length : Int) then (if (rd x13 x15) < 0 then (some 10) else (if (rd x13 x15) ≥ (x0.length : Int) then (some 10) else (suffix_place.l0 k x0 x13 x14 (wrap64 (x15 + 1))))) else (none)) else (none)) else (some 0)
def suffix_place.f (k : Nat) (l0 : List Int) (l1 : List Int) : Option (Int) := (suffix_Check.f k l0).bind fun t190 => (if t190 = 0 then (suffix_place.l0 k l0 l1 (l1.length : Int) 0) else (some t190))
theorem suffix_place.mono_l : ∀ k, (∀ y0 y1 y2 y3, LeO (suffix_place.l0 k y0 y1 y2 y3) (suffix_place.l0 (k + 1) y0 y1 y2 y3))
 | 0 => fun _ _ _ _ r h => by simp [suffix_place.l0] at h
 | k + 1 => by
  have ih0 := suffix_place.mono_l k
  ·intro y0 y1 y2 y3
   unfold suffix_place.l0
   repeat' first
   | (with_reducible exact ih0 _ _ _ _)
   | (with_reducible exact suffix_Check.mono _ _)
   | (with_reducible exact LeO.refl _)
   | (with_reducible exact LeO.none _)
   | (with_reducible refine LeO.ite ?_ ?_)
   | (with_reducible refine LeO.bind ?_ (fun _ => ?_))
   | exact ih0 _ _ _ _
   | exact suffix_Check.mono _ _
   | exact LeO.none _
   | refine LeO.ite ?_ ?_
   | refine LeO.bind ?_ (fun _ => ?_)
theorem suffix_place.mono : ∀ a0 a1 k, LeO (suffix_place.f k a0 a1) (suffix_place.f (k + 1) a0 a1) := by
 intro a0 a1 k
 have ih0 := suffix_place.mono_l k
 unfold suffix_place.f
 repeat' first
   | (with_reducible exact ih0 _ _ _ _)
   | (with_reducible exact suffix_Check.mono _ _)
   | (with_reducible exact LeO.refl _)
   | (with_reducible exact LeO.none _)
   | (with_reducible refine LeO.ite ?_ ?_)
   | (with_reducible refine LeO.bind ?_ (fun _ => ?_))
   | exact ih0 _ _ _ _
   | exact suffix_Check.mono _ _
   | exact LeO.none _
   | refine LeO.ite ?_ ?_
   | refine LeO.bind ?_ (fun _ => ?_)
set_option maxHeartbeats 8000000 in
set_option maxRecDepth 100000 in
theorem suffix_place.calls (k : Nat) (A0 : Option Addr) (c0 : Nat) (l0 : List Int) (A1 : Option Addr) (c1 : Nat) (l1 : List Int) (r : Int) (w : World) (hr0 : Kd.C (Kd.int .i64) w A0 l0.length l0) (hc0 : l0.length ≤ c0) (hr1 : Kd.C (Kd.int .i64) w A1 l1.length l1) (hc1 : l1.length ≤ c1) (h : suffix_place.f k l0 l1 = some r) :
  Calls Try.prog 53 #[.slice A0 l0.length c0, .slice A1 l1.length c1] w fun e w' => e = .returned (.int .i64 r) ∧ Drawn0 w w' := by
 have HR0 := Aside0.mk hr0
 have HC0 := Aside0.mk hc0
 clear hr0 hc0
 have HR1 := Aside0.mk hr1
 have HC1 := Aside0.mk hc1
 clear hr1 hc1
 have H : ((suffix_Check.f k l0).bind fun t190 => (if t190 = 0 then (suffix_place.l0 k l0 l1 (l1.length : Int) 0) else (some t190))) = some r := h
 clear h
 replace H := Option.bind_eq_some_iff.mp H
 obtain ⟨t190, A30, H⟩ := H
 replace H : (if t190 = 0 then (suffix_place.l0 k l0 l1 (l1.length : Int) 0) else (some t190)) = some r := H
 have A3 := Aside0.mk A30
 clear A30
 by_cases c4 : t190 = 0
 ·rw [if_pos c4] at H
  have c4b0 : (t190 == 0) = true := beq_iff_eq.mpr c4
  have c4b1 : (t190 != 0) = false := bne_eq_false_iff_eq.mpr c4
  clear c4
  have H' := Aside0.mk H
  clear H
  go_enter Try.func53, Try.ntmps53
  go_wp2_with (first | ((with_reducible refine gate_callee (f := 33) rfl ?_); refine goesL_ (some 9) rfl rfl Try.func33 (by kernel_rfl) rfl #[.slice A0 l0.length c0] rfl (by (try simp only [List.map_toArray, List.map_cons, List.map_nil]); first | done | rfl | (simp only [List.length_drop, List.length_take]; rfl)) ?_; (with_reducible refine (suffix_Check.calls k _ _ l0 t190 _ ?side1 ?side2 A3.out).mono ?_); (case side1 => repeat (first | exact HR0.out | (with_reducible refine Kd.C_alloc ?_ _) | (with_reducible refine Kd.C_drewN ?_ _) | (with_reducible refine Kd.C_drew ?_))); (case side2 => exact HC0.out); rintro e w' ⟨rfl, ⟨nd, rfl⟩⟩; refine ⟨_, rfl, ?_⟩))
  go_loopg [15] k (fun kq v15 w' => ∃ (x15_1 : Int), v15 = .int .i64 x15_1 ∧ Aside0 (suffix_place.l0 kq l0 l1 (l1.length : Int) x15_1 = some r) ∧ Aside0 (kq ≤ k) ∧ Drawn0 w w')
  case atStart => exact ⟨(0), (by first | rfl | (simp; done) | (simp [*]; done)), H', ⟨Nat.le_refl _⟩, by repeat (first | exact Drawn0.refl _ | apply Drawn0.step)⟩
  case round =>
   clear H'
   try clear c1
   try clear p2
   try clear c3
   try clear c4
   try clear c4b0
   try clear c4b1
   obtain ⟨x15_1, rfl, HA, HK1, ⟨m1, rfl⟩⟩ := hrel
   cases gk with
   | zero => exact absurd HA.out (by simp [suffix_place.l0])
   | succ k1 =>
    have H := HA.out
    clear HA
    simp only [suffix_place.l0] at H
    by_cases c5 : x15_1 < (l1.length : Int)
    ·rw [if_pos c5] at H
     have c5b0 : decide (x15_1 < (l1.length : Int)) = true := decide_eq_true c5
     clear c5
     by_cases c6 : 0 ≤ x15_1
     ·rw [if_pos c6] at H
      have c6b0 : decide (0 ≤ x15_1) = true := decide_eq_true c6
      clear c6
      by_cases c7 : x15_1 < (l1.length : Int)
      ·rw [if_pos c7] at H
       have c7b0 : decide (x15_1 < (l1.length : Int)) = true := decide_eq_true c7
       clear c7
       by_cases c8 : (rd l1 x15_1) < 0
       ·rw [if_pos c8] at H
        have c8b0 : decide ((rd l1 x15_1) < 0) = true := decide_eq_true c8
        clear c8
        obtain rfl := Option.some.inj H
        have p191 : 0 ≤ (x15_1 : Int) := of_decide_eq_true (by first | (with_reducible assumption) | assumption)
        have q191 : x15_1 < (l1.length : Int) := of_decide_eq_true (by first | (with_reducible assumption) | assumption)
        obtain ⟨ad191, e191, hx191_0⟩ := Kd.at_int HR1.out x15_1 p191 q191
        cases e191
        replace p191 := eq_true p191
        replace q191 := eq_true q191
        go_wp2
        go_ret
        exact ⟨by first | rfl | (simp; done) | (simp [*]; done), by repeat (first | exact Drawn0.refl _ | apply Drawn0.step)⟩
       ·rw [if_neg c8] at H
        have c8b0 : decide ((rd l1 x15_1) < 0) = false := decide_eq_false c8
        clear c8
        by_cases c9 : (rd l1 x15_1) ≥ (l0.length : Int)
        ·rw [if_pos c9] at H
         have c9b0 : decide ((l0.length : Int) ≤ (rd l1 x15_1)) = true := decide_eq_true c9
         clear c9
         obtain rfl := Option.some.inj H
         have p191 : 0 ≤ (x15_1 : Int) := of_decide_eq_true (by first | (with_reducible assumption) | assumption)
         have q191 : x15_1 < (l1.length : Int) := of_decide_eq_true (by first | (with_reducible assumption) | assumption)
         obtain ⟨ad191, e191, hx191_0⟩ := Kd.at_int HR1.out x15_1 p191 q191
         cases e191
         replace p191 := eq_true p191
         replace q191 := eq_true q191
         go_wp2
         go_ret
         exact ⟨by first | rfl | (simp; done) | (simp [*]; done), by repeat (first | exact Drawn0.refl _ | apply Drawn0.step)⟩
        ·rw [if_neg c9] at H
         have c9b0 : decide ((l0.length : Int) ≤ (rd l1 x15_1)) = false := decide_eq_false c9
         clear c9
         have H' := Aside0.mk H
         clear H
         have p191 : 0 ≤ (x15_1 : Int) := of_decide_eq_true (by first | (with_reducible assumption) | assumption)
         have q191 : x15_1 < (l1.length : Int) := of_decide_eq_true (by first | (with_reducible assumption) | assumption)
         obtain ⟨ad191, e191, hx191_0⟩ := Kd.at_int HR1.out x15_1 p191 q191
         cases e191
         replace p191 := eq_true p191
         replace q191 := eq_true q191
         go_wp2
         go_roundg k1
         case measure => have := HK1.out; omega
         case rel => exact ⟨(wrap64 (x15_1 + 1)), (by first | rfl | (simp; done) | (simp [*]; done)), H', ⟨by have := HK1.out; omega⟩, by repeat (first | exact Drawn0.refl _ | apply Drawn0.step)⟩
      ·rw [if_neg c7] at H
       exact absurd H (by simp)
     ·rw [if_neg c6] at H
      exact absurd H (by simp)
    ·rw [if_neg c5] at H
     have c5b0 : decide (x15_1 < (l1.length : Int)) = false := decide_eq_false c5
     clear c5
     obtain rfl := Option.some.inj H
     go_wp2
     go_ret
     exact ⟨by first | rfl | (simp; done) | (simp [*]; done), by repeat (first | exact Drawn0.refl _ | apply Drawn0.step)⟩
 ·rw [if_neg c4] at H
  have c4b0 : (t190 == 0) = false := beq_eq_false_iff_ne.mpr c4
  have c4b1 : (t190 != 0) = true := bne_iff_ne.mpr c4
  obtain rfl := Option.some.inj H
  go_enter Try.func53, Try.ntmps53
  go_wp2_with (first | ((with_reducible refine gate_callee (f := 33) rfl ?_); refine goesL_ (some 9) rfl rfl Try.func33 (by kernel_rfl) rfl #[.slice A0 l0.length c0] rfl (by (try simp only [List.map_toArray, List.map_cons, List.map_nil]); first | done | rfl | (simp only [List.length_drop, List.length_take]; rfl)) ?_; (with_reducible refine (suffix_Check.calls k _ _ l0 t190 _ ?side1 ?side2 A3.out).mono ?_); (case side1 => repeat (first | exact HR0.out | (with_reducible refine Kd.C_alloc ?_ _) | (with_reducible refine Kd.C_drewN ?_ _) | (with_reducible refine Kd.C_drew ?_))); (case side2 => exact HC0.out); rintro e w' ⟨rfl, ⟨nd, rfl⟩⟩; refine ⟨_, rfl, ?_⟩))
  go_ret
  exact ⟨by first | rfl | (simp; done) | (simp [*]; done), by repeat (first | exact Drawn0.refl _ | apply Drawn0.step)⟩

/-! ### cmp_Less_int: function 70 -/
def cmp_Less_int.f (a0 : Int) (a1 : Int) : Option (Bool) := (cmp_isNaN_int.f a0).bind fun t192 => (if t192 = true then ((cmp_isNaN_int.f a1).bind fun t193 => (if t193 = true then (some (decide (a0 < a1))) else (some true))) else (some (decide (a0 < a1))))
set_option maxHeartbeats 8000000 in
set_option maxRecDepth 100000 in
theorem cmp_Less_int.calls (a0 : Int) (a1 : Int) (r : Bool) (w : World) (h : cmp_Less_int.f a0 a1 = some r) :
  Calls Try.prog 70 #[.int .i64 a0, .int .i64 a1] w fun e w' => e = .returned (.bool r) ∧ Drawn0 w w' := by
 have H : ((cmp_isNaN_int.f a0).bind fun t192 => (if t192 = true then ((cmp_isNaN_int.f a1).bind fun t193 => (if t193 = true then (some (decide (a0 < a1))) else (some true))) else (some (decide (a0 < a1))))) = some r := h
 clear h
 replace H := Option.bind_eq_some_iff.mp H
 obtain ⟨t192, A30, H⟩ := H
 replace H : (if t192 = true then ((cmp_isNaN_int.f a1).bind fun t193 => (if t193 = true then (some (decide (a0 < a1))) else (some true))) else (some (decide (a0 < a1)))) = some r := H
 have A3 := Aside0.mk A30
 clear A30
 by_cases c4 : t192 = true
 ·subst c4
  have H1 : ((cmp_isNaN_int.f a1).bind fun t193 => (if t193 = true then (some (decide (a0 < a1))) else (some true))) = some r := by rw [if_pos rfl] at H; exact H
  clear H
  have H := H1
  clear H1
  replace H := Option.bind_eq_some_iff.mp H
  obtain ⟨t193, A50, H⟩ := H
  replace H : (if t193 = true then (some (decide (a0 < a1))) else (some true)) = some r := H
  have A5 := Aside0.mk A50
  clear A50
  by_cases c6 : t193 = true
  ·subst c6
   have H1 : (some (decide (a0 < a1))) = some r := by rw [if_pos rfl] at H; exact H
   clear H
   have H := H1
   clear H1
   obtain rfl := Option.some.inj H
   go_enter Try.func70, Try.ntmps70
   go_wp2_with (first | ((with_reducible refine gate_callee (f := 94) rfl ?_); refine goesL_ (some 6) rfl rfl Try.func94 (by kernel_rfl) rfl #[.int .i64 a0] rfl (by (try simp only [List.map_toArray, List.map_cons, List.map_nil]); first | done | rfl | (simp only [List.length_drop, List.length_take]; rfl)) ?_; (with_reducible refine (cmp_isNaN_int.calls a0 true _ A3.out).mono ?_); rintro e w' ⟨rfl, ⟨nd, rfl⟩⟩; refine ⟨_, rfl, ?_⟩) | (go_at_call 94; (with_reducible refine (cmp_isNaN_int.calls a1 true _ A5.out).mono ?_); rintro e w' ⟨rfl, ⟨nd, rfl⟩⟩))
   go_ret
   exact ⟨by first | rfl | (simp; done) | (simp [*]; done), by repeat (first | exact Drawn0.refl _ | apply Drawn0.step)⟩
  ·replace c6 := Bool.eq_false_iff.mpr c6
   subst c6
   have H1 : (some true) = some r := by rw [if_neg (show ¬ (false = true) by decide)] at H; exact H
   clear H
   have H := H1
   clear H1
   obtain rfl := Option.some.inj H
   go_enter Try.func70, Try.ntmps70
   go_wp2_with (first | ((with_reducible refine gate_callee (f := 94) rfl ?_); refine goesL_ (some 6) rfl rfl Try.func94 (by kernel_rfl) rfl #[.int .i64 a0] rfl (by (try simp only [List.map_toArray, List.map_cons, List.map_nil]); first | done | rfl | (simp only [List.length_drop, List.length_take]; rfl)) ?_; (with_reducible refine (cmp_isNaN_int.calls a0 true _ A3.out).mono ?_); rintro e w' ⟨rfl, ⟨nd, rfl⟩⟩; refine ⟨_, rfl, ?_⟩) | (go_at_call 94; (with_reducible refine (cmp_isNaN_int.calls a1 false _ A5.out).mono ?_); rintro e w' ⟨rfl, ⟨nd, rfl⟩⟩))
   go_ret
   exact ⟨by first | rfl | (simp; done) | (simp [*]; done), by repeat (first | exact Drawn0.refl _ | apply Drawn0.step)⟩
 ·replace c4 := Bool.eq_false_iff.mpr c4
  subst c4
  have H1 : (some (decide (a0 < a1))) = some r := by rw [if_neg (show ¬ (false = true) by decide)] at H; exact H
  clear H
  have H := H1
  clear H1
  obtain rfl := Option.some.inj H
  go_enter Try.func70, Try.ntmps70
  go_wp2_with (first | ((with_reducible refine gate_callee (f := 94) rfl ?_); refine goesL_ (some 6) rfl rfl Try.func94 (by kernel_rfl) rfl #[.int .i64 a0] rfl (by (try simp only [List.map_toArray, List.map_cons, List.map_nil]); first | done | rfl | (simp only [List.length_drop, List.length_take]; rfl)) ?_; (with_reducible refine (cmp_isNaN_int.calls a0 false _ A3.out).mono ?_); rintro e w' ⟨rfl, ⟨nd, rfl⟩⟩; refine ⟨_, rfl, ?_⟩))
  go_ret
  exact ⟨by first | rfl | (simp; done) | (simp [*]; done), by repeat (first | exact Drawn0.refl _ | apply Drawn0.step)⟩

/-! ### slices_isNaN_int: function 71 -/
def slices_isNaN_int.f (a0 : Int) : Option (Bool) := some (a0 != a0)
set_option maxHeartbeats 8000000 in
set_option maxRecDepth 100000 in
theorem slices_isNaN_int.calls (a0 : Int) (r : Bool) (w : World) (h : slices_isNaN_int.f a0 = some r) :
  Calls Try.prog 71 #[.int .i64 a0] w fun e w' => e = .returned (.bool r) ∧ Drawn0 w w' := by
 have H : (some (a0 != a0)) = some r := h
 clear h
 obtain rfl := Option.some.inj H
 go_enter Try.func71, Try.ntmps71
 go_wp2
 go_ret
 exact ⟨by first | rfl | (simp; done) | (simp [*]; done), by repeat (first | exact Drawn0.refl _ | apply Drawn0.step)⟩

/-! ### slices_BinarySearch_int_int: function 54 -/
def slices_BinarySearch_int_int.l0 : Nat → List Int → Int → Int → Int → Int → Option (Int × Bool)
 | 0, _, _, _, _, _ => none
 | k + 1, x0, x1, x6, x7, x8 => if x7 < x8 then (if 0 ≤ (wrap64 ((IntKind.u64.wrap (wrap64 (x7 + x8))) / 2)) then (if (wrap64 ((IntKind.u64.wrap (wrap64 (x7 + x8))) / 2)) < (x0.length : Int) then ((cmp_Less_int.f (rd x0 (wrap64 ((IntKind.u64.wrap (wrap64 (x7 + x8))) / 2))) x1).bind fun t195 => (if t195 = true then (slices_BinarySearch_int_int.l0 k x0 x1 x6 (wrap64 ((wrap64 ((IntKind.u64.wrap (wrap64 (x7 + x8))) / 2)) + 1)) x8) else (slices_BinarySearch_int_int.l0 k x0 x1 x6 x7 (wrap64 ((IntKind.u64.wrap (wrap64 (x7 + x8))) / 2))))) else (none)) else (none)) else (if x7 < x6 then (if 0 ≤ x7 then (if x7 < (x0.length : Int) then (if (rd x0 x7) = x1 then (some (x7, true)) else ((slices_isNaN_int.f (rd x0 x7)).bind fun t198 => (if t198 = true then ((slices_isNaN_int.f x1).bind fun t199 => (some (x7, t199))) else (some (x7, false))))) else (none)) else (none)) else (some (x7, false)))
def slices_BinarySearch_int_int.f (k : Nat) (l0 : List Int) (a1 : Int) : Option (Int × Bool) := slices_BinarySearch_int_int.l0 k l0 a1 (l0.length : Int) 0 (l0.length : Int)
theorem slices_BinarySearch_int_int.mono_l : ∀ k, (∀ y0 y1 y2 y3 y4, LeO (slices_BinarySearch_int_int.l0 k y0 y1 y2 y3 y4) (slices_BinarySearch_int_int.l0 (k + 1) y0 y1 y2 y3 y4))
 | 0 => fun _ _ _ _ _ r h => by simp [slices_BinarySearch_int_int.l0] at h
 | k + 1 => by
  have ih0 := slices_BinarySearch_int_int.mono_l k
  ·intro y0 y1 y2 y3 y4
   unfold slices_BinarySearch_int_int.l0
   repeat' first
   | (with_reducible exact ih0 _ _ _ _ _)
   | (with_reducible exact LeO.refl _)
   | (with_reducible exact LeO.none _)
   | (with_reducible refine LeO.ite ?_ ?_)
   | (with_reducible refine LeO.bind ?_ (fun _ => ?_))
   | exact ih0 _ _ _ _ _
   | exact LeO.none _
   | refine LeO.ite ?_ ?_
   | refine LeO.bind ?_ (fun _ => ?_)
theorem slices_BinarySearch_int_int.mono : ∀ a0 a1 k, LeO (slices_BinarySearch_int_int.f k a0 a1) (slices_BinarySearch_int_int.f (k + 1) a0 a1) := by
 intro a0 a1 k
 have ih0 := slices_BinarySearch_int_int.mono_l k
 unfold slices_BinarySearch_int_int.f
 repeat' first
   | (with_reducible exact ih0 _ _ _ _ _)
   | (with_reducible exact LeO.refl _)
   | (with_reducible exact LeO.none _)
   | (with_reducible refine LeO.ite ?_ ?_)
   | (with_reducible refine LeO.bind ?_ (fun _ => ?_))
   | exact ih0 _ _ _ _ _
   | exact LeO.none _
   | refine LeO.ite ?_ ?_
   | refine LeO.bind ?_ (fun _ => ?_)
set_option maxHeartbeats 8000000 in
set_option maxRecDepth 100000 in
theorem slices_BinarySearch_int_int.calls (k : Nat) (A0 : Option Addr) (c0 : Nat) (l0 : List Int) (a1 : Int) (r1 : Int) (r2 : Bool) (w : World) (hr0 : Kd.C (Kd.int .i64) w A0 l0.length l0) (hc0 : l0.length ≤ c0) (h : slices_BinarySearch_int_int.f k l0 a1 = some (r1, r2)) :
  Calls Try.prog 54 #[.slice A0 l0.length c0, .int .i64 a1] w fun e w' => e = .returned (.tuple #[.int .i64 r1, .bool r2]) ∧ Drawn0 w w' := by
 have HR0 := Aside0.mk hr0
 have HC0 := Aside0.mk hc0
 clear hr0 hc0
 have H : (slices_BinarySearch_int_int.l0 k l0 a1 (l0.length : Int) 0 (l0.length : Int)) = some (r1, r2) := h
 clear h
 have H' := Aside0.mk H
 clear H
 go_enter Try.func54, Try.ntmps54
 go_wp2
 go_loopg [7, 8] k (fun kq v7 v8 w' => ∃ (x7_1 : Int) (x8_1 : Int), v7 = .int .i64 x7_1 ∧ v8 = .int .i64 x8_1 ∧ Aside0 (slices_BinarySearch_int_int.l0 kq l0 a1 (l0.length : Int) x7_1 x8_1 = some (r1, r2)) ∧ Aside0 (kq ≤ k) ∧ Drawn0 w w')
 case atStart => exact ⟨(0), ((l0.length : Int)), (by first | rfl | (simp; done) | (simp [*]; done)), (by first | rfl | (simp; done) | (simp [*]; done)), H', ⟨Nat.le_refl _⟩, by repeat (first | exact Drawn0.refl _ | apply Drawn0.step)⟩
 case round =>
  clear H'
  try clear p2
  obtain ⟨x7_1, x8_1, rfl, rfl, HA, HK1, ⟨m1, rfl⟩⟩ := hrel
  cases gk with
  | zero => exact absurd HA.out (by simp [slices_BinarySearch_int_int.l0])
  | succ k1 =>
   have H := HA.out
   clear HA
   simp only [slices_BinarySearch_int_int.l0] at H
   by_cases c3 : x7_1 < x8_1
   ·rw [if_pos c3] at H
    have c3b0 : decide (x7_1 < x8_1) = true := decide_eq_true c3
    clear c3
    obtain ⟨ji4, hji4⟩ : ∃ j_ : Int, (wrap64 ((IntKind.u64.wrap (wrap64 (x7_1 + x8_1))) / 2)) = j_ := ⟨_, rfl⟩
    replace H : (if 0 ≤ (ji4) then (if (ji4) < (l0.length : Int) then ((cmp_Less_int.f (rd l0 (ji4)) a1).bind fun t195 => (if t195 = true then (slices_BinarySearch_int_int.l0 k1 l0 a1 (l0.length : Int) (wrap64 ((ji4) + 1)) x8_1) else (slices_BinarySearch_int_int.l0 k1 l0 a1 (l0.length : Int) x7_1 ji4))) else (none)) else (none)) = some (r1, r2) := by first | (rw [hji4] at H; exact H) | (simp only [hji4] at H ⊢; exact H)
    have hji4w : (IntKind.i64.wrap ((IntKind.u64.wrap (wrap64 (x7_1 + x8_1))) / 2)) = ji4 := (i64_w _).trans hji4
    by_cases c5 : 0 ≤ (ji4)
    ·rw [if_pos c5] at H
     have c5b0 : decide (0 ≤ (ji4)) = true := decide_eq_true c5
     clear c5
     by_cases c6 : (ji4) < (l0.length : Int)
     ·rw [if_pos c6] at H
      have c6b0 : decide ((ji4) < (l0.length : Int)) = true := decide_eq_true c6
      clear c6
      replace H := Option.bind_eq_some_iff.mp H
      obtain ⟨t195, A70, H⟩ := H
      replace H : (if t195 = true then (slices_BinarySearch_int_int.l0 k1 l0 a1 (l0.length : Int) (wrap64 ((ji4) + 1)) x8_1) else (slices_BinarySearch_int_int.l0 k1 l0 a1 (l0.length : Int) x7_1 ji4)) = some (r1, r2) := H
      have A7 := Aside0.mk A70
      clear A70
      by_cases c8 : t195 = true
      ·subst c8
       have H1 : (slices_BinarySearch_int_int.l0 k1 l0 a1 (l0.length : Int) (wrap64 ((ji4) + 1)) x8_1) = some (r1, r2) := by rw [if_pos rfl] at H; exact H
       clear H
       have H := H1
       clear H1
       have H' := Aside0.mk H
       clear H
       have p194 : 0 ≤ ((ji4) : Int) := of_decide_eq_true (by first | (with_reducible assumption) | assumption)
       have q194 : (ji4) < (l0.length : Int) := of_decide_eq_true (by first | (with_reducible assumption) | assumption)
       obtain ⟨ad194, e194, hx194_0⟩ := Kd.at_int HR0.out (ji4) p194 q194
       cases e194
       replace p194 := eq_true p194
       replace q194 := eq_true q194
       go_wp2_with (first | ((with_reducible refine gate_callee (f := 70) rfl ?_); refine goesL_ (some 27) rfl rfl Try.func70 (by kernel_rfl) rfl #[.int .i64 (rd l0 (ji4)), .int .i64 a1] rfl (by (try simp only [List.map_toArray, List.map_cons, List.map_nil]); first | done | (simp only [hji4]; rfl) | rfl | (simp only [List.length_drop, List.length_take]; rfl)) ?_; (with_reducible refine (cmp_Less_int.calls (rd l0 (ji4)) a1 true _ A7.out).mono ?_); rintro e w' ⟨rfl, ⟨nd, rfl⟩⟩; refine ⟨_, rfl, ?_⟩))
       go_roundg k1
       case measure => have := HK1.out; omega
       case rel => exact ⟨(wrap64 ((ji4) + 1)), (x8_1), (by first | rfl | (simp; done) | (simp only [← hji4] <;> (first | rfl | simp)) | (simp [*]; done)), (by first | rfl | (simp; done) | (simp [*]; done)), H', ⟨by have := HK1.out; omega⟩, by repeat (first | exact Drawn0.refl _ | apply Drawn0.step)⟩
      ·replace c8 := Bool.eq_false_iff.mpr c8
       subst c8
       have H1 : (slices_BinarySearch_int_int.l0 k1 l0 a1 (l0.length : Int) x7_1 ji4) = some (r1, r2) := by rw [if_neg (show ¬ (false = true) by decide)] at H; exact H
       clear H
       have H := H1
       clear H1
       have H' := Aside0.mk H
       clear H
       have p194 : 0 ≤ ((ji4) : Int) := of_decide_eq_true (by first | (with_reducible assumption) | assumption)
       have q194 : (ji4) < (l0.length : Int) := of_decide_eq_true (by first | (with_reducible assumption) | assumption)
       obtain ⟨ad194, e194, hx194_0⟩ := Kd.at_int HR0.out (ji4) p194 q194
       cases e194
       replace p194 := eq_true p194
       replace q194 := eq_true q194
       go_wp2_with (first | ((with_reducible refine gate_callee (f := 70) rfl ?_); refine goesL_ (some 27) rfl rfl Try.func70 (by kernel_rfl) rfl #[.int .i64 (rd l0 (ji4)), .int .i64 a1] rfl (by (try simp only [List.map_toArray, List.map_cons, List.map_nil]); first | done | (simp only [hji4]; rfl) | rfl | (simp only [List.length_drop, List.length_take]; rfl)) ?_; (with_reducible refine (cmp_Less_int.calls (rd l0 (ji4)) a1 false _ A7.out).mono ?_); rintro e w' ⟨rfl, ⟨nd, rfl⟩⟩; refine ⟨_, rfl, ?_⟩))
       go_roundg k1
       case measure => have := HK1.out; omega
       case rel => exact ⟨(x7_1), (ji4), (by first | rfl | (simp; done) | (simp [*]; done)), (by first | rfl | (simp; done) | (simp only [← hji4] <;> (first | rfl | simp)) | (simp [*]; done)), H', ⟨by have := HK1.out; omega⟩, by repeat (first | exact Drawn0.refl _ | apply Drawn0.step)⟩
     ·rw [if_neg c6] at H
      exact absurd H (by simp)
    ·rw [if_neg c5] at H
     exact absurd H (by simp)
   ·rw [if_neg c3] at H
    have c3b0 : decide (x7_1 < x8_1) = false := decide_eq_false c3
    clear c3
    by_cases c9 : x7_1 < (l0.length : Int)
    ·rw [if_pos c9] at H
     have c9b0 : decide (x7_1 < (l0.length : Int)) = true := decide_eq_true c9
     clear c9
     by_cases c10 : 0 ≤ x7_1
     ·rw [if_pos c10] at H
      have c10b0 : decide (0 ≤ x7_1) = true := decide_eq_true c10
      clear c10
      by_cases c11 : x7_1 < (l0.length : Int)
      ·rw [if_pos c11] at H
       have c11b0 : decide (x7_1 < (l0.length : Int)) = true := decide_eq_true c11
       clear c11
       by_cases c12 : (rd l0 x7_1) = a1
       ·rw [if_pos c12] at H
        have c12b0 : ((rd l0 x7_1) == a1) = true := beq_iff_eq.mpr c12
        have c12b1 : ((rd l0 x7_1) != a1) = false := bne_eq_false_iff_eq.mpr c12
        clear c12
        simp only [Option.some.injEq, Prod.mk.injEq] at H
        obtain ⟨rfl, rfl⟩ := H
        have p196 : 0 ≤ (x7_1 : Int) := of_decide_eq_true (by first | (with_reducible assumption) | assumption)
        have q196 : x7_1 < (l0.length : Int) := of_decide_eq_true (by first | (with_reducible assumption) | assumption)
        obtain ⟨ad196, e196, hx196_0⟩ := Kd.at_int HR0.out x7_1 p196 q196
        cases e196
        replace p196 := eq_true p196
        replace q196 := eq_true q196
        go_wp2
        go_ret2
        exact ⟨by first | rfl | (simp; done) | (simp [*]; done), by repeat (first | exact Drawn0.refl _ | apply Drawn0.step)⟩
       ·rw [if_neg c12] at H
        have c12b0 : ((rd l0 x7_1) == a1) = false := beq_eq_false_iff_ne.mpr c12
        have c12b1 : ((rd l0 x7_1) != a1) = true := bne_iff_ne.mpr c12
        replace H := Option.bind_eq_some_iff.mp H
        obtain ⟨t198, A130, H⟩ := H
        replace H : (if t198 = true then ((slices_isNaN_int.f a1).bind fun t199 => (some (x7_1, t199))) else (some (x7_1, false))) = some (r1, r2) := H
        have A13 := Aside0.mk A130
        clear A130
        by_cases c14 : t198 = true
        ·subst c14
         have H1 : ((slices_isNaN_int.f a1).bind fun t199 => (some (x7_1, t199))) = some (r1, r2) := by rw [if_pos rfl] at H; exact H
         clear H
         have H := H1
         clear H1
         replace H := Option.bind_eq_some_iff.mp H
         obtain ⟨t199, A150, H⟩ := H
         replace H : (some (x7_1, t199)) = some (r1, r2) := H
         have A15 := Aside0.mk A150
         clear A150
         simp only [Option.some.injEq, Prod.mk.injEq] at H
         obtain ⟨rfl, rfl⟩ := H
         have p196 : 0 ≤ (x7_1 : Int) := of_decide_eq_true (by first | (with_reducible assumption) | assumption)
         have q196 : x7_1 < (l0.length : Int) := of_decide_eq_true (by first | (with_reducible assumption) | assumption)
         obtain ⟨ad196, e196, hx196_0⟩ := Kd.at_int HR0.out x7_1 p196 q196
         cases e196
         replace p196 := eq_true p196
         replace q196 := eq_true q196
         have p197 : 0 ≤ (x7_1 : Int) := of_decide_eq_true (by first | (with_reducible assumption) | assumption)
         have q197 : x7_1 < (l0.length : Int) := of_decide_eq_true (by first | (with_reducible assumption) | assumption)
         obtain ⟨ad197, e197, hx197_0⟩ := Kd.at_int HR0.out x7_1 p197 q197
         obtain rfl : ad196 = ad197 := (by injection e197)
         replace p197 := eq_true p197
         replace q197 := eq_true q197
         go_wp2_with (first | (go_at_call 71; (with_reducible refine (slices_isNaN_int.calls (rd l0 x7_1) true _ A13.out).mono ?_); rintro e w' ⟨rfl, ⟨nd, rfl⟩⟩) | (go_at_call 71; (with_reducible refine (slices_isNaN_int.calls a1 t199 _ A15.out).mono ?_); rintro e w' ⟨rfl, ⟨nd, rfl⟩⟩))
         go_ret2
         exact ⟨by first | rfl | (simp; done) | (simp [*]; done), by repeat (first | exact Drawn0.refl _ | apply Drawn0.step)⟩
        ·replace c14 := Bool.eq_false_iff.mpr c14
         subst c14
         have H1 : (some (x7_1, false)) = some (r1, r2) := by rw [if_neg (show ¬ (false = true) by decide)] at H; exact H
         clear H
         have H := H1
         clear H1
         simp only [Option.some.injEq, Prod.mk.injEq] at H
         obtain ⟨rfl, rfl⟩ := H
         have p196 : 0 ≤ (x7_1 : Int) := of_decide_eq_true (by first | (with_reducible assumption) | assumption)
         have q196 : x7_1 < (l0.length : Int) := of_decide_eq_true (by first | (with_reducible assumption) | assumption)
         obtain ⟨ad196, e196, hx196_0⟩ := Kd.at_int HR0.out x7_1 p196 q196
         cases e196
         replace p196 := eq_true p196
         replace q196 := eq_true q196
         have p197 : 0 ≤ (x7_1 : Int) := of_decide_eq_true (by first | (with_reducible assumption) | assumption)
         have q197 : x7_1 < (l0.length : Int) := of_decide_eq_true (by first | (with_reducible assumption) | assumption)
         obtain ⟨ad197, e197, hx197_0⟩ := Kd.at_int HR0.out x7_1 p197 q197
         obtain rfl : ad196 = ad197 := (by injection e197)
         replace p197 := eq_true p197
         replace q197 := eq_true q197
         go_wp2_with (first | (go_at_call 71; (with_reducible refine (slices_isNaN_int.calls (rd l0 x7_1) false _ A13.out).mono ?_); rintro e w' ⟨rfl, ⟨nd, rfl⟩⟩))
         go_ret2
         exact ⟨by first | rfl | (simp; done) | (simp [*]; done), by repeat (first | exact Drawn0.refl _ | apply Drawn0.step)⟩
      ·rw [if_neg c11] at H
       exact absurd H (by simp)
     ·rw [if_neg c10] at H
      exact absurd H (by simp)
    ·rw [if_neg c9] at H
     have c9b0 : decide (x7_1 < (l0.length : Int)) = false := decide_eq_false c9
     clear c9
     simp only [Option.some.injEq, Prod.mk.injEq] at H
     obtain ⟨rfl, rfl⟩ := H
     go_wp2
     go_ret2
     exact ⟨by first | rfl | (simp; done) | (simp [*]; done), by repeat (first | exact Drawn0.refl _ | apply Drawn0.step)⟩

/-! ### slices_Clone_int_int: function 55 (by hand) -/
def slices_Clone_int_int.f (l0 : List Int) : Option (List Int) := if inKs .i64 l0 = true then (if l0.length < 17592186044416 then some l0 else none) else none
theorem slices_Clone_int_int.calls (A0 : Option Addr) (c0 : Nat) (l0 : List Int) (r : List Int) (w : World) (hr0 : Kd.C (Kd.int .i64) w A0 l0.length l0) (hc0 : l0.length ≤ c0) (h : slices_Clone_int_int.f l0 = some r) :
  Calls Try.prog 55 #[.slice A0 l0.length c0] w fun e w' => ∃ v0_ : Value, e = .returned (v0_) ∧ Kd.R (Kd.int .i64) 3 w' w.heap.size (fun _ => True) v0_ r ∧ Below w.heap.size w w' := by
 obtain ⟨hw, h⟩ : inKs .i64 l0 = true ∧ (if l0.length < 17592186044416 then some l0 else none) = some r := by
  cases hi : inKs .i64 l0 with
  | true => unfold slices_Clone_int_int.f at h; rw [hi, if_pos rfl] at h; exact ⟨rfl, h⟩
  | false => unfold slices_Clone_int_int.f at h; rw [hi, if_neg (by decide)] at h; cases h
 by_cases hl : l0.length < 17592186044416
 ·rw [if_pos hl] at h
  obtain rfl := Option.some.inj h
  refine (cloneInts_calls A0 l0.length c0 l0 w (rd_of_kd hr0 (inKs_of hw)) (by omega)).mono fun e w' ⟨v, he, hv, hu⟩ => ⟨v, he, kd_of_own hv fun _ _ => trivial, hu.out⟩
 ·rw [if_neg hl] at h; cases h


/-! ### suffix_Piece: function 25 -/
def suffix_Piece.f (k : Nat) (l0 : List Int) (a1 : Int) : Option (List Int × Int) := (suffix_place.f k l0 (([a1] : List Int))).bind fun t203 => (if t203 = 0 then ((suffix_Firsts.f k l0).bind fun bt204 => ((slices_BinarySearch_int_int.f k bt204.1 a1).bind fun bt208 => (if bt208.2 = true then (if bt208.1 = (wrap64 ((bt204.1.length : Int) - 1)) then (if 0 ≤ a1 then (if a1 ≤ (l0.length : Int) then ((slices_Clone_int_int.f (l0.drop (a1 : Int).toNat)).bind fun t211 => (some (t211, 0))) else (none)) else (none)) else (if 0 ≤ (wrap64 (bt208.1 + 1)) then (if (wrap64 (bt208.1 + 1)) < (bt204.1.length : Int) then (if 0 ≤ a1 then (if a1 ≤ (wrap64 ((rd bt204.1 (wrap64 (bt208.1 + 1))) + 1)) then (if (wrap64 ((rd bt204.1 (wrap64 (bt208.1 + 1))) + 1)) ≤ (l0.length : Int) then ((slices_Clone_int_int.f ((l0.take ((wrap64 ((rd bt204.1 (wrap64 (bt208.1 + 1))) + 1)) : Int).toNat).drop (a1 : Int).toNat)).bind fun t216 => (some (t216, 0))) else (none)) else (none)) else (none)) else (none)) else (none))) else (some (([] : List Int), 7))))) else (some (([] : List Int), t203)))
theorem suffix_Piece.mono : ∀ a0 a1 k, LeO (suffix_Piece.f k a0 a1) (suffix_Piece.f (k + 1) a0 a1) := by
 intro a0 a1 k
 unfold suffix_Piece.f
 repeat' first
   | (with_reducible exact slices_BinarySearch_int_int.mono _ _ _)
   | (with_reducible exact suffix_Firsts.mono _ _)
   | (with_reducible exact suffix_place.mono _ _ _)
   | (with_reducible exact LeO.refl _)
   | (with_reducible exact LeO.none _)
   | (with_reducible refine LeO.ite ?_ ?_)
   | (with_reducible refine LeO.bind ?_ (fun _ => ?_))
   | exact slices_BinarySearch_int_int.mono _ _ _
   | exact suffix_Firsts.mono _ _
   | exact suffix_place.mono _ _ _
   | exact LeO.none _
   | refine LeO.ite ?_ ?_
   | refine LeO.bind ?_ (fun _ => ?_)
set_option maxHeartbeats 8000000 in
set_option maxRecDepth 100000 in
theorem suffix_Piece.calls (k : Nat) (A0 : Option Addr) (c0 : Nat) (l0 : List Int) (a1 : Int) (r1 : List Int) (r2 : Int) (w : World) (hr0 : Kd.C (Kd.int .i64) w A0 l0.length l0) (hc0 : l0.length ≤ c0) (h : suffix_Piece.f k l0 a1 = some (r1, r2)) :
  Calls Try.prog 25 #[.slice A0 l0.length c0, .int .i64 a1] w fun e w' => ∃ v0_ : Value, e = .returned (.tuple #[v0_, .int .i64 r2]) ∧ Kd.R (Kd.int .i64) 3 w' w.heap.size (fun _ => True) v0_ r1 ∧ Below w.heap.size w w' := by
 have HR0 := Aside0.mk hr0
 have HC0 := Aside0.mk hc0
 clear hr0 hc0
 have HB := Aside0.mk (Below.refl w.heap.size w)
 have H : ((suffix_place.f k l0 (([a1] : List Int))).bind fun t203 => (if t203 = 0 then ((suffix_Firsts.f k l0).bind fun bt204 => ((slices_BinarySearch_int_int.f k bt204.1 a1).bind fun bt208 => (if bt208.2 = true then (if bt208.1 = (wrap64 ((bt204.1.length : Int) - 1)) then (if 0 ≤ a1 then (if a1 ≤ (l0.length : Int) then ((slices_Clone_int_int.f (l0.drop (a1 : Int).toNat)).bind fun t211 => (some (t211, 0))) else (none)) else (none)) else (if 0 ≤ (wrap64 (bt208.1 + 1)) then (if (wrap64 (bt208.1 + 1)) < (bt204.1.length : Int) then (if 0 ≤ a1 then (if a1 ≤ (wrap64 ((rd bt204.1 (wrap64 (bt208.1 + 1))) + 1)) then (if (wrap64 ((rd bt204.1 (wrap64 (bt208.1 + 1))) + 1)) ≤ (l0.length : Int) then ((slices_Clone_int_int.f ((l0.take ((wrap64 ((rd bt204.1 (wrap64 (bt208.1 + 1))) + 1)) : Int).toNat).drop (a1 : Int).toNat)).bind fun t216 => (some (t216, 0))) else (none)) else (none)) else (none)) else (none)) else (none))) else (some (([] : List Int), 7))))) else (some (([] : List Int), t203)))) = some (r1, r2) := h
 clear h
 obtain ⟨y200, hy200⟩ : ∃ y_ : List Int, y_ = (([a1] : List Int)) := ⟨_, rfl⟩
 replace H : ((suffix_place.f k l0 y200).bind fun t203 => (if t203 = 0 then ((suffix_Firsts.f k l0).bind fun bt204 => ((slices_BinarySearch_int_int.f k bt204.1 a1).bind fun bt208 => (if bt208.2 = true then (if bt208.1 = (wrap64 ((bt204.1.length : Int) - 1)) then (if 0 ≤ a1 then (if a1 ≤ (l0.length : Int) then ((slices_Clone_int_int.f (l0.drop (a1 : Int).toNat)).bind fun t211 => (some (t211, 0))) else (none)) else (none)) else (if 0 ≤ (wrap64 (bt208.1 + 1)) then (if (wrap64 (bt208.1 + 1)) < (bt204.1.length : Int) then (if 0 ≤ a1 then (if a1 ≤ (wrap64 ((rd bt204.1 (wrap64 (bt208.1 + 1))) + 1)) then (if (wrap64 ((rd bt204.1 (wrap64 (bt208.1 + 1))) + 1)) ≤ (l0.length : Int) then ((slices_Clone_int_int.f ((l0.take ((wrap64 ((rd bt204.1 (wrap64 (bt208.1 + 1))) + 1)) : Int).toNat).drop (a1 : Int).toNat)).bind fun t216 => (some (t216, 0))) else (none)) else (none)) else (none)) else (none)) else (none))) else (some (([] : List Int), 7))))) else (some (([] : List Int), t203)))) = some (r1, r2) := by first | (rw [hy200]; with_reducible exact H) | (have H2_ := (Option.bind_some _ _).symm.trans H; rw [hy200]; with_reducible exact H2_) | (have H2_ := (Option.bind_some _ _).symm.trans H; with_reducible exact H2_) | with_reducible exact H | (rw [hy200]; exact H) | exact H
 have Ny200 := Aside0.mk hy200
 clear hy200
 replace H := Option.bind_eq_some_iff.mp H
 obtain ⟨t203, A30, H⟩ := H
 replace H : (if t203 = 0 then ((suffix_Firsts.f k l0).bind fun bt204 => ((slices_BinarySearch_int_int.f k bt204.1 a1).bind fun bt208 => (if bt208.2 = true then (if bt208.1 = (wrap64 ((bt204.1.length : Int) - 1)) then (if 0 ≤ a1 then (if a1 ≤ (l0.length : Int) then ((slices_Clone_int_int.f (l0.drop (a1 : Int).toNat)).bind fun t211 => (some (t211, 0))) else (none)) else (none)) else (if 0 ≤ (wrap64 (bt208.1 + 1)) then (if (wrap64 (bt208.1 + 1)) < (bt204.1.length : Int) then (if 0 ≤ a1 then (if a1 ≤ (wrap64 ((rd bt204.1 (wrap64 (bt208.1 + 1))) + 1)) then (if (wrap64 ((rd bt204.1 (wrap64 (bt208.1 + 1))) + 1)) ≤ (l0.length : Int) then ((slices_Clone_int_int.f ((l0.take ((wrap64 ((rd bt204.1 (wrap64 (bt208.1 + 1))) + 1)) : Int).toNat).drop (a1 : Int).toNat)).bind fun t216 => (some (t216, 0))) else (none)) else (none)) else (none)) else (none)) else (none))) else (some (([] : List Int), 7))))) else (some (([] : List Int), t203))) = some (r1, r2) := H
 have A3 := Aside0.mk A30
 clear A30
 by_cases c4 : t203 = 0
 ·rw [if_pos c4] at H
  have c4b0 : (t203 == 0) = true := beq_iff_eq.mpr c4
  have c4b1 : (t203 != 0) = false := bne_eq_false_iff_eq.mpr c4
  clear c4
  replace H := Option.bind_eq_some_iff.mp H
  obtain ⟨⟨t204, t205⟩, A50, H⟩ := H
  replace H : ((slices_BinarySearch_int_int.f k t204 a1).bind fun bt208 => (if bt208.2 = true then (if bt208.1 = (wrap64 ((t204.length : Int) - 1)) then (if 0 ≤ a1 then (if a1 ≤ (l0.length : Int) then ((slices_Clone_int_int.f (l0.drop (a1 : Int).toNat)).bind fun t211 => (some (t211, 0))) else (none)) else (none)) else (if 0 ≤ (wrap64 (bt208.1 + 1)) then (if (wrap64 (bt208.1 + 1)) < (t204.length : Int) then (if 0 ≤ a1 then (if a1 ≤ (wrap64 ((rd t204 (wrap64 (bt208.1 + 1))) + 1)) then (if (wrap64 ((rd t204 (wrap64 (bt208.1 + 1))) + 1)) ≤ (l0.length : Int) then ((slices_Clone_int_int.f ((l0.take ((wrap64 ((rd t204 (wrap64 (bt208.1 + 1))) + 1)) : Int).toNat).drop (a1 : Int).toNat)).bind fun t216 => (some (t216, 0))) else (none)) else (none)) else (none)) else (none)) else (none))) else (some (([] : List Int), 7)))) = some (r1, r2) := H
  have A5 := Aside0.mk A50
  clear A50
  replace H := Option.bind_eq_some_iff.mp H
  obtain ⟨⟨t208, t209⟩, A60, H⟩ := H
  replace H : (if t209 = true then (if t208 = (wrap64 ((t204.length : Int) - 1)) then (if 0 ≤ a1 then (if a1 ≤ (l0.length : Int) then ((slices_Clone_int_int.f (l0.drop (a1 : Int).toNat)).bind fun t211 => (some (t211, 0))) else (none)) else (none)) else (if 0 ≤ (wrap64 (t208 + 1)) then (if (wrap64 (t208 + 1)) < (t204.length : Int) then (if 0 ≤ a1 then (if a1 ≤ (wrap64 ((rd t204 (wrap64 (t208 + 1))) + 1)) then (if (wrap64 ((rd t204 (wrap64 (t208 + 1))) + 1)) ≤ (l0.length : Int) then ((slices_Clone_int_int.f ((l0.take ((wrap64 ((rd t204 (wrap64 (t208 + 1))) + 1)) : Int).toNat).drop (a1 : Int).toNat)).bind fun t216 => (some (t216, 0))) else (none)) else (none)) else (none)) else (none)) else (none))) else (some (([] : List Int), 7))) = some (r1, r2) := H
  have A6 := Aside0.mk A60
  clear A60
  by_cases c7 : t209 = true
  ·subst c7
   have H1 : (if t208 = (wrap64 ((t204.length : Int) - 1)) then (if 0 ≤ a1 then (if a1 ≤ (l0.length : Int) then ((slices_Clone_int_int.f (l0.drop (a1 : Int).toNat)).bind fun t211 => (some (t211, 0))) else (none)) else (none)) else (if 0 ≤ (wrap64 (t208 + 1)) then (if (wrap64 (t208 + 1)) < (t204.length : Int) then (if 0 ≤ a1 then (if a1 ≤ (wrap64 ((rd t204 (wrap64 (t208 + 1))) + 1)) then (if (wrap64 ((rd t204 (wrap64 (t208 + 1))) + 1)) ≤ (l0.length : Int) then ((slices_Clone_int_int.f ((l0.take ((wrap64 ((rd t204 (wrap64 (t208 + 1))) + 1)) : Int).toNat).drop (a1 : Int).toNat)).bind fun t216 => (some (t216, 0))) else (none)) else (none)) else (none)) else (none)) else (none))) = some (r1, r2) := by rw [if_pos rfl] at H; exact H
   clear H
   have H := H1
   clear H1
   by_cases c8 : t208 = (wrap64 ((t204.length : Int) - 1))
   ·rw [if_pos c8] at H
    have c8b0 : (t208 == (wrap64 ((t204.length : Int) - 1))) = true := beq_iff_eq.mpr c8
    have c8b1 : (t208 != (wrap64 ((t204.length : Int) - 1))) = false := bne_eq_false_iff_eq.mpr c8
    clear c8
    by_cases c9 : 0 ≤ a1
    ·rw [if_pos c9] at H
     have c9b0 := eq_true c9
     have c9b1 : decide (0 ≤ a1) = true := decide_eq_true c9
     clear c9
     by_cases c10 : a1 ≤ (l0.length : Int)
     ·rw [if_pos c10] at H
      have c10b0 := eq_true c10
      have c10b1 : decide (a1 ≤ (l0.length : Int)) = true := decide_eq_true c10
      clear c10
      replace H := Option.bind_eq_some_iff.mp H
      obtain ⟨t211, A110, H⟩ := H
      replace H : (some (t211, 0)) = some (r1, r2) := H
      have A11 := Aside0.mk A110
      clear A110
      simp only [Option.some.injEq, Prod.mk.injEq] at H
      obtain ⟨rfl, rfl⟩ := H
      go_enter Try.func25, Try.ntmps25
      go_wp2_with (first | ((with_reducible refine gate_dst (N := 13) rfl ?_); refine Kd.R_lit (Kd.int .i64) _ 3 ?hg (N := 13) ?hd (xs := ([a1] : List Int)) (inner := [.int .i64 a1]) (ok := fun _ => True) (okp := fun _ => True) ?hr ?hp (fun _ hk => hk) trivial (Below.refl _ _) (Nat.le_refl _) (by simp) ?_; (case hd => rfl); (case hg => rfl); (case hr => first | (go_simp; done) | (go_simp; rfl)); (case hp => exact (Reps.one (show Kd.M (Kd.int .i64) _ _ _ a1 [.int .i64 a1] from rfl) (Reps.none _ _))); intro v201 w12 ho13 hb hg_ hnew_; clear hg_ hnew_; (first | rw [← Ny200.out] at ho13 | (simp only [Int.reduceToNat] at ho13; rw [← Ny200.out] at ho13)); have n0_ := Aside0.mk (Kd.R_lower ho13 (below_size (by repeat (first | (with_reducible first | exact HB.out | apply below_alloc | apply pw_below_drewN | apply below_drew1) | exact HB.out)))); have n1_ := Aside0.mk (below_step (by repeat (first | (with_reducible first | exact HB.out | apply below_alloc | apply pw_below_drewN | apply below_drew1) | exact HB.out)) hb); clear HB; have HO202 := n0_; have HB := n1_; clear n0_ n1_; clear hb ho13; obtain ⟨Ao14, co14, eo14⟩ := Kd.R_slice HO202.out; subst eo14) | ((with_reducible refine gate_callee (f := 53) rfl ?_); refine goesL_ (some 14) rfl rfl Try.func53 (by kernel_rfl) rfl #[.slice A0 l0.length c0, .slice Ao14 y200.length co14] rfl (by (try simp only [List.map_toArray, List.map_cons, List.map_nil]); first | done | rfl | (simp only [List.length_drop, List.length_take]; rfl)) ?_; (with_reducible refine (suffix_place.calls k _ _ l0 _ _ y200 t203 _ ?side1 ?side2 ?side3 ?side4 A3.out).mono ?_); (case side1 => repeat (first | exact (Kd.C_below HR0.out HB.out) | (with_reducible refine Kd.C_alloc ?_ _) | (with_reducible refine Kd.C_drewN ?_ _) | (with_reducible refine Kd.C_drew ?_))); (case side2 => exact HC0.out); (case side3 => repeat (first | exact (Kd.R_reads' HO202.out).2.2 | (with_reducible refine Kd.C_alloc ?_ _) | (with_reducible refine Kd.C_drewN ?_ _) | (with_reducible refine Kd.C_drew ?_))); (case side4 => exact (Kd.R_reads' HO202.out).2.1); rintro e w' ⟨rfl, ⟨nd, rfl⟩⟩; refine ⟨_, rfl, ?_⟩) | ((with_reducible refine gate_callee (f := 23) rfl ?_); refine goesL_ (some 20) rfl rfl Try.func23 (by kernel_rfl) rfl #[.slice A0 l0.length c0] rfl (by (try simp only [List.map_toArray, List.map_cons, List.map_nil]); first | done | rfl | (simp only [List.length_drop, List.length_take]; rfl)) ?_; (with_reducible refine (suffix_Firsts.calls k _ _ l0 t204 t205 _ ?side1 ?side2 A5.out).mono ?_); (case side1 => repeat (first | exact (Kd.C_below HR0.out (by repeat (first | (with_reducible first | exact HB.out | apply below_alloc | apply pw_below_drewN | apply below_drew1) | exact HB.out))) | (with_reducible refine Kd.C_alloc ?_ _) | (with_reducible refine Kd.C_drewN ?_ _) | (with_reducible refine Kd.C_drew ?_))); (case side2 => exact HC0.out); rintro e w15 ⟨v206, rfl, ho0, hb⟩; refine ⟨_, rfl, ?_⟩; have n0_ := Aside0.mk (Kd.R_elder' (by (with_reducible repeat (first | apply Kd.R_alloc | apply Kd.R_drewN | apply Kd.R_drew)); exact HO202.out) (Kd.R_base ho0) hb); have n1_ := Aside0.mk (Kd.R_lower (Kd.R_new' ho0 (Kd.R_lt (by (with_reducible repeat (first | apply Kd.R_alloc | apply Kd.R_drewN | apply Kd.R_drew)); exact HO202.out))) (below_size (by repeat (first | (with_reducible first | exact HB.out | apply below_alloc | apply pw_below_drewN | apply below_drew1) | exact HB.out)))); have n2_ := Aside0.mk (below_step (by repeat (first | (with_reducible first | exact HB.out | apply below_alloc | apply pw_below_drewN | apply below_drew1) | exact HB.out)) hb); clear HO202; clear HB; have HO202 := n0_; have HO207 := n1_; have HB := n2_; clear n0_ n1_ n2_; (try clear hb); (try clear hb2); (try clear hk); (try clear hi); (try clear ho0); obtain ⟨Ao16, co16, eo16⟩ := Kd.R_slice HO207.out; subst eo16) | ((with_reducible refine gate_callee (f := 54) rfl ?_); refine goesL_ (some 26) rfl rfl Try.func54 (by kernel_rfl) rfl #[.slice Ao16 t204.length co16, .int .i64 a1] rfl (by (try simp only [List.map_toArray, List.map_cons, List.map_nil]); first | done | rfl | (simp only [List.length_drop, List.length_take]; rfl)) ?_; (with_reducible refine (slices_BinarySearch_int_int.calls k _ _ t204 a1 t208 true _ ?side1 ?side2 A6.out).mono ?_); (case side1 => repeat (first | exact (Kd.R_reads' HO207.out).2.2 | (with_reducible refine Kd.C_alloc ?_ _) | (with_reducible refine Kd.C_drewN ?_ _) | (with_reducible refine Kd.C_drew ?_))); (case side2 => exact (Kd.R_reads' HO207.out).2.1); rintro e w' ⟨rfl, ⟨nd, rfl⟩⟩; refine ⟨_, rfl, ?_⟩; obtain ⟨i017, hi017, _, hsz17, _⟩ := info_parts info3; obtain ⟨A17, hcut17, hA17, hC17⟩ := print_drop_of (P := Try.prog) (Value.int .i64) 0 22 3 .i64 Try.underlying22 hi017 hsz17 A0 c0 l0 a1 (of_decide_eq_true (by first | (with_reducible assumption) | assumption)) (of_decide_eq_true (by first | (with_reducible assumption) | assumption)) HC0.out; have HR210 := Aside0.mk (Kd.C_of_reads (h1 := fun _ => rfl) (hA17 _ (Kd.reads_of_C HR0.out))); have HC210 := Aside0.mk hC17; clear hA17 hC17 hi017 hsz17; have hSL17 := Aside0.mk (show (l0.drop (a1 : Int).toNat).length = (l0.length - a1.toNat) from List.length_drop)) | ((with_reducible refine gate_callee (f := 55) rfl ?_); refine goesL_ (some 41) rfl rfl Try.func55 (by kernel_rfl) rfl #[.slice A17 (l0.drop (a1 : Int).toNat).length (c0 - a1.toNat)] rfl (by (try simp only [List.map_toArray, List.map_cons, List.map_nil]); first | done | (rw [show (l0.drop (a1 : Int).toNat).length = (l0.length - a1.toNat) from hSL17.out] <;> rfl) | rfl | (simp only [List.length_drop, List.length_take]; rfl)) ?_; (with_reducible refine (slices_Clone_int_int.calls _ _ (l0.drop (a1 : Int).toNat) t211 _ ?side1 ?side2 A11.out).mono ?_); (case side1 => repeat (first | exact (Kd.C_below HR210.out (by repeat (first | (with_reducible first | exact HB.out | apply below_alloc | apply pw_below_drewN | apply below_drew1) | exact HB.out))) | (with_reducible refine Kd.C_alloc ?_ _) | (with_reducible refine Kd.C_drewN ?_ _) | (with_reducible refine Kd.C_drew ?_))); (case side2 => exact HC210.out); rintro e w18 ⟨v212, rfl, ho0, hb⟩; refine ⟨_, rfl, ?_⟩; have n0_ := Aside0.mk (Kd.R_elder' (by (with_reducible repeat (first | apply Kd.R_alloc | apply Kd.R_drewN | apply Kd.R_drew)); exact HO202.out) (Kd.R_base ho0) hb); have n1_ := Aside0.mk (Kd.R_elder' (by (with_reducible repeat (first | apply Kd.R_alloc | apply Kd.R_drewN | apply Kd.R_drew)); exact HO207.out) (Kd.R_base ho0) hb); have n2_ := Aside0.mk (Kd.R_lower (Kd.R_new' (Kd.R_new' ho0 (Kd.R_lt (by (with_reducible repeat (first | apply Kd.R_alloc | apply Kd.R_drewN | apply Kd.R_drew)); exact HO202.out))) (Kd.R_lt (by (with_reducible repeat (first | apply Kd.R_alloc | apply Kd.R_drewN | apply Kd.R_drew)); exact HO207.out))) (below_size (by repeat (first | (with_reducible first | exact HB.out | apply below_alloc | apply pw_below_drewN | apply below_drew1) | exact HB.out)))); have n3_ := Aside0.mk (below_step (by repeat (first | (with_reducible first | exact HB.out | apply below_alloc | apply pw_below_drewN | apply below_drew1) | exact HB.out)) hb); clear HO202; clear HO207; clear HB; have HO202 := n0_; have HO207 := n1_; have HO213 := n2_; have HB := n3_; clear n0_ n1_ n2_ n3_; (try clear hb); (try clear hb2); (try clear hk); (try clear hi); (try clear ho0)))
      go_ret2
      exact ⟨_, by first | rfl | (rw [hSL17.out]; first | rfl | simp) | (simp [errW_none, errW_some] <;> rfl) | (simp [*, errW_none, errW_some] <;> rfl), by (with_reducible repeat (first | apply Kd.R_alloc | apply Kd.R_drewN | apply Kd.R_drew)); exact Kd.R_mono HO213.out (fun _ hk => trivial), by repeat (first | (with_reducible first | exact HB.out | apply below_alloc | apply pw_below_drewN | apply below_drew1) | exact HB.out)⟩
     ·rw [if_neg c10] at H
      exact absurd H (by simp)
    ·rw [if_neg c9] at H
     exact absurd H (by simp)
   ·rw [if_neg c8] at H
    have c8b0 : (t208 == (wrap64 ((t204.length : Int) - 1))) = false := beq_eq_false_iff_ne.mpr c8
    have c8b1 : (t208 != (wrap64 ((t204.length : Int) - 1))) = true := bne_iff_ne.mpr c8
    obtain ⟨ji19, hji19⟩ : ∃ j_ : Int, (wrap64 (t208 + 1)) = j_ := ⟨_, rfl⟩
    replace H : (if 0 ≤ (ji19) then (if (ji19) < (t204.length : Int) then (if 0 ≤ a1 then (if a1 ≤ (wrap64 ((rd t204 (ji19)) + 1)) then (if (wrap64 ((rd t204 (ji19)) + 1)) ≤ (l0.length : Int) then ((slices_Clone_int_int.f ((l0.take ((wrap64 ((rd t204 (ji19)) + 1)) : Int).toNat).drop (a1 : Int).toNat)).bind fun t216 => (some (t216, 0))) else (none)) else (none)) else (none)) else (none)) else (none)) = some (r1, r2) := by first | (rw [hji19] at H; exact H) | (simp only [hji19] at H ⊢; exact H)
    (try rw [hji19] at A3)
    (try rw [hji19] at A5)
    (try rw [hji19] at A6)
    have hji19w : (IntKind.i64.wrap (t208 + 1)) = ji19 := (i64_w _).trans hji19
    by_cases c20 : 0 ≤ (ji19)
    ·rw [if_pos c20] at H
     have c20b0 : decide (0 ≤ (ji19)) = true := decide_eq_true c20
     clear c20
     by_cases c21 : (ji19) < (t204.length : Int)
     ·rw [if_pos c21] at H
      have c21b0 : decide ((ji19) < (t204.length : Int)) = true := decide_eq_true c21
      clear c21
      by_cases c22 : 0 ≤ a1
      ·rw [if_pos c22] at H
       have c22b0 := eq_true c22
       have c22b1 : decide (0 ≤ a1) = true := decide_eq_true c22
       clear c22
       by_cases c23 : a1 ≤ (wrap64 ((rd t204 (ji19)) + 1))
       ·rw [if_pos c23] at H
        have c23b0 := eq_true c23
        have c23b1 : decide (a1 ≤ (wrap64 ((rd t204 (ji19)) + 1))) = true := decide_eq_true c23
        by_cases c24 : (wrap64 ((rd t204 (ji19)) + 1)) ≤ (l0.length : Int)
        ·rw [if_pos c24] at H
         have c24b0 := eq_true c24
         have c24b1 : decide ((wrap64 ((rd t204 (ji19)) + 1)) ≤ (l0.length : Int)) = true := decide_eq_true c24
         replace H := Option.bind_eq_some_iff.mp H
         obtain ⟨t216, A250, H⟩ := H
         replace H : (some (t216, 0)) = some (r1, r2) := H
         have A25 := Aside0.mk A250
         clear A250
         simp only [Option.some.injEq, Prod.mk.injEq] at H
         obtain ⟨rfl, rfl⟩ := H
         go_enter Try.func25, Try.ntmps25
         go_wp2_with (first | ((with_reducible refine gate_dst (N := 13) rfl ?_); refine Kd.R_lit (Kd.int .i64) _ 3 ?hg (N := 13) ?hd (xs := ([a1] : List Int)) (inner := [.int .i64 a1]) (ok := fun _ => True) (okp := fun _ => True) ?hr ?hp (fun _ hk => hk) trivial (Below.refl _ _) (Nat.le_refl _) (by simp) ?_; (case hd => rfl); (case hg => rfl); (case hr => first | (go_simp; done) | (go_simp; rfl)); (case hp => exact (Reps.one (show Kd.M (Kd.int .i64) _ _ _ a1 [.int .i64 a1] from rfl) (Reps.none _ _))); intro v201 w26 ho27 hb hg_ hnew_; clear hg_ hnew_; (first | rw [← Ny200.out] at ho27 | (simp only [Int.reduceToNat] at ho27; rw [← Ny200.out] at ho27)); have n0_ := Aside0.mk (Kd.R_lower ho27 (below_size (by repeat (first | (with_reducible first | exact HB.out | apply below_alloc | apply pw_below_drewN | apply below_drew1) | exact HB.out)))); have n1_ := Aside0.mk (below_step (by repeat (first | (with_reducible first | exact HB.out | apply below_alloc | apply pw_below_drewN | apply below_drew1) | exact HB.out)) hb); clear HB; have HO202 := n0_; have HB := n1_; clear n0_ n1_; clear hb ho27; obtain ⟨Ao28, co28, eo28⟩ := Kd.R_slice HO202.out; subst eo28) | ((with_reducible refine gate_callee (f := 53) rfl ?_); refine goesL_ (some 14) rfl rfl Try.func53 (by kernel_rfl) rfl #[.slice A0 l0.length c0, .slice Ao28 y200.length co28] rfl (by (try simp only [List.map_toArray, List.map_cons, List.map_nil]); first | done | rfl | (simp only [List.length_drop, List.length_take]; rfl)) ?_; (with_reducible refine (suffix_place.calls k _ _ l0 _ _ y200 t203 _ ?side1 ?side2 ?side3 ?side4 A3.out).mono ?_); (case side1 => repeat (first | exact (Kd.C_below HR0.out HB.out) | (with_reducible refine Kd.C_alloc ?_ _) | (with_reducible refine Kd.C_drewN ?_ _) | (with_reducible refine Kd.C_drew ?_))); (case side2 => exact HC0.out); (case side3 => repeat (first | exact (Kd.R_reads' HO202.out).2.2 | (with_reducible refine Kd.C_alloc ?_ _) | (with_reducible refine Kd.C_drewN ?_ _) | (with_reducible refine Kd.C_drew ?_))); (case side4 => exact (Kd.R_reads' HO202.out).2.1); rintro e w' ⟨rfl, ⟨nd, rfl⟩⟩; refine ⟨_, rfl, ?_⟩) | ((with_reducible refine gate_callee (f := 23) rfl ?_); refine goesL_ (some 20) rfl rfl Try.func23 (by kernel_rfl) rfl #[.slice A0 l0.length c0] rfl (by (try simp only [List.map_toArray, List.map_cons, List.map_nil]); first | done | rfl | (simp only [List.length_drop, List.length_take]; rfl)) ?_; (with_reducible refine (suffix_Firsts.calls k _ _ l0 t204 t205 _ ?side1 ?side2 A5.out).mono ?_); (case side1 => repeat (first | exact (Kd.C_below HR0.out (by repeat (first | (with_reducible first | exact HB.out | apply below_alloc | apply pw_below_drewN | apply below_drew1) | exact HB.out))) | (with_reducible refine Kd.C_alloc ?_ _) | (with_reducible refine Kd.C_drewN ?_ _) | (with_reducible refine Kd.C_drew ?_))); (case side2 => exact HC0.out); rintro e w29 ⟨v206, rfl, ho0, hb⟩; refine ⟨_, rfl, ?_⟩; have n0_ := Aside0.mk (Kd.R_elder' (by (with_reducible repeat (first | apply Kd.R_alloc | apply Kd.R_drewN | apply Kd.R_drew)); exact HO202.out) (Kd.R_base ho0) hb); have n1_ := Aside0.mk (Kd.R_lower (Kd.R_new' ho0 (Kd.R_lt (by (with_reducible repeat (first | apply Kd.R_alloc | apply Kd.R_drewN | apply Kd.R_drew)); exact HO202.out))) (below_size (by repeat (first | (with_reducible first | exact HB.out | apply below_alloc | apply pw_below_drewN | apply below_drew1) | exact HB.out)))); have n2_ := Aside0.mk (below_step (by repeat (first | (with_reducible first | exact HB.out | apply below_alloc | apply pw_below_drewN | apply below_drew1) | exact HB.out)) hb); clear HO202; clear HB; have HO202 := n0_; have HO207 := n1_; have HB := n2_; clear n0_ n1_ n2_; (try clear hb); (try clear hb2); (try clear hk); (try clear hi); (try clear ho0); obtain ⟨Ao30, co30, eo30⟩ := Kd.R_slice HO207.out; subst eo30) | ((with_reducible refine gate_callee (f := 54) rfl ?_); refine goesL_ (some 26) rfl rfl Try.func54 (by kernel_rfl) rfl #[.slice Ao30 t204.length co30, .int .i64 a1] rfl (by (try simp only [List.map_toArray, List.map_cons, List.map_nil]); first | done | rfl | (simp only [List.length_drop, List.length_take]; rfl)) ?_; (with_reducible refine (slices_BinarySearch_int_int.calls k _ _ t204 a1 t208 true _ ?side1 ?side2 A6.out).mono ?_); (case side1 => repeat (first | exact (Kd.R_reads' HO207.out).2.2 | (with_reducible refine Kd.C_alloc ?_ _) | (with_reducible refine Kd.C_drewN ?_ _) | (with_reducible refine Kd.C_drew ?_))); (case side2 => exact (Kd.R_reads' HO207.out).2.1); rintro e w' ⟨rfl, ⟨nd, rfl⟩⟩; refine ⟨_, rfl, ?_⟩; have p214 : 0 ≤ ((ji19) : Int) := of_decide_eq_true (by first | (with_reducible assumption) | assumption); have q214 : (ji19) < (t204.length : Int) := of_decide_eq_true (by first | (with_reducible assumption) | assumption); obtain ⟨ad214, e214, hx214_0⟩ := Kd.at_int (Kd.R_reads' HO207.out).2.2 (ji19) p214 q214; cases e214; replace p214 := eq_true p214; replace q214 := eq_true q214; obtain ⟨i031, hi031, _, hsz31, _⟩ := info_parts info3; obtain ⟨A31, hcut31, hA31, hC31⟩ := print_mid_of (P := Try.prog) (Value.int .i64) 0 22 3 .i64 .i64 Try.underlying22 hi031 hsz31 A0 c0 l0 a1 (wrap64 ((rd t204 (ji19)) + 1)) (of_decide_eq_true (by first | (with_reducible assumption) | assumption)) (by first | omega | exact of_decide_eq_true (by first | (with_reducible assumption) | assumption)) (of_decide_eq_true (by first | (with_reducible assumption) | assumption)) HC0.out; have HR215 := Aside0.mk (Kd.C_of_reads (h1 := fun _ => rfl) (hA31 _ (Kd.reads_of_C HR0.out))); have HC215 := Aside0.mk hC31; clear hA31 hC31 hi031 hsz31; have hSL31 := Aside0.mk (show ((l0.take ((wrap64 ((rd t204 (ji19)) + 1)) : Int).toNat).drop (a1 : Int).toNat).length = ((wrap64 ((rd t204 (ji19)) + 1)).toNat - a1.toNat) from (by rw [List.length_drop, List.length_take]; have h_ : ((wrap64 ((rd t204 (ji19)) + 1)) : Int) ≤ (l0.length : Int) := of_decide_eq_true (by first | (with_reducible assumption) | assumption); omega))) | ((with_reducible refine gate_callee (f := 55) rfl ?_); refine goesL_ (some 51) rfl rfl Try.func55 (by kernel_rfl) rfl #[.slice A31 ((l0.take ((wrap64 ((rd t204 (ji19)) + 1)) : Int).toNat).drop (a1 : Int).toNat).length (c0 - a1.toNat)] rfl (by (try simp only [List.map_toArray, List.map_cons, List.map_nil]); first | done | (rw [show ((l0.take ((wrap64 ((rd t204 (ji19)) + 1)) : Int).toNat).drop (a1 : Int).toNat).length = ((wrap64 ((rd t204 (ji19)) + 1)).toNat - a1.toNat) from hSL31.out] <;> rfl) | (simp only [hji19]; rfl) | rfl | (simp only [List.length_drop, List.length_take]; rfl)) ?_; (with_reducible refine (slices_Clone_int_int.calls _ _ ((l0.take ((wrap64 ((rd t204 (ji19)) + 1)) : Int).toNat).drop (a1 : Int).toNat) t216 _ ?side1 ?side2 A25.out).mono ?_); (case side1 => repeat (first | exact (Kd.C_below HR215.out (by repeat (first | (with_reducible first | exact HB.out | apply below_alloc | apply pw_below_drewN | apply below_drew1) | exact HB.out))) | (with_reducible refine Kd.C_alloc ?_ _) | (with_reducible refine Kd.C_drewN ?_ _) | (with_reducible refine Kd.C_drew ?_))); (case side2 => exact HC215.out); rintro e w32 ⟨v217, rfl, ho0, hb⟩; refine ⟨_, rfl, ?_⟩; have n0_ := Aside0.mk (Kd.R_elder' (by (with_reducible repeat (first | apply Kd.R_alloc | apply Kd.R_drewN | apply Kd.R_drew)); exact HO202.out) (Kd.R_base ho0) hb); have n1_ := Aside0.mk (Kd.R_elder' (by (with_reducible repeat (first | apply Kd.R_alloc | apply Kd.R_drewN | apply Kd.R_drew)); exact HO207.out) (Kd.R_base ho0) hb); have n2_ := Aside0.mk (Kd.R_lower (Kd.R_new' (Kd.R_new' ho0 (Kd.R_lt (by (with_reducible repeat (first | apply Kd.R_alloc | apply Kd.R_drewN | apply Kd.R_drew)); exact HO202.out))) (Kd.R_lt (by (with_reducible repeat (first | apply Kd.R_alloc | apply Kd.R_drewN | apply Kd.R_drew)); exact HO207.out))) (below_size (by repeat (first | (with_reducible first | exact HB.out | apply below_alloc | apply pw_below_drewN | apply below_drew1) | exact HB.out)))); have n3_ := Aside0.mk (below_step (by repeat (first | (with_reducible first | exact HB.out | apply below_alloc | apply pw_below_drewN | apply below_drew1) | exact HB.out)) hb); clear HO202; clear HO207; clear HB; have HO202 := n0_; have HO207 := n1_; have HO218 := n2_; have HB := n3_; clear n0_ n1_ n2_ n3_; (try clear hb); (try clear hb2); (try clear hk); (try clear hi); (try clear ho0)))
         go_ret2
         exact ⟨_, by first | rfl | (rw [hSL17.out]; first | rfl | simp) | (rw [hSL31.out]; first | rfl | simp) | (simp [errW_none, errW_some] <;> rfl) | (simp only [← hji19]; first | rfl | (simp [errW_none, errW_some] <;> rfl)) | (simp [*, errW_none, errW_some] <;> rfl), by (with_reducible repeat (first | apply Kd.R_alloc | apply Kd.R_drewN | apply Kd.R_drew)); exact Kd.R_mono HO218.out (fun _ hk => trivial), by repeat (first | (with_reducible first | exact HB.out | apply below_alloc | apply pw_below_drewN | apply below_drew1) | exact HB.out)⟩
        ·rw [if_neg c24] at H
         exact absurd H (by simp)
       ·rw [if_neg c23] at H
        exact absurd H (by simp)
      ·rw [if_neg c22] at H
       exact absurd H (by simp)
     ·rw [if_neg c21] at H
      exact absurd H (by simp)
    ·rw [if_neg c20] at H
     exact absurd H (by simp)
  ·replace c7 := Bool.eq_false_iff.mpr c7
   subst c7
   have H1 : (some (([] : List Int), 7)) = some (r1, r2) := by rw [if_neg (show ¬ (false = true) by decide)] at H; exact H
   clear H
   have H := H1
   clear H1
   simp only [Option.some.injEq, Prod.mk.injEq] at H
   obtain ⟨rfl, rfl⟩ := H
   go_enter Try.func25, Try.ntmps25
   go_wp2_with (first | ((with_reducible refine gate_dst (N := 13) rfl ?_); refine Kd.R_lit (Kd.int .i64) _ 3 ?hg (N := 13) ?hd (xs := ([a1] : List Int)) (inner := [.int .i64 a1]) (ok := fun _ => True) (okp := fun _ => True) ?hr ?hp (fun _ hk => hk) trivial (Below.refl _ _) (Nat.le_refl _) (by simp) ?_; (case hd => rfl); (case hg => rfl); (case hr => first | (go_simp; done) | (go_simp; rfl)); (case hp => exact (Reps.one (show Kd.M (Kd.int .i64) _ _ _ a1 [.int .i64 a1] from rfl) (Reps.none _ _))); intro v201 w33 ho34 hb hg_ hnew_; clear hg_ hnew_; (first | rw [← Ny200.out] at ho34 | (simp only [Int.reduceToNat] at ho34; rw [← Ny200.out] at ho34)); have n0_ := Aside0.mk (Kd.R_lower ho34 (below_size (by repeat (first | (with_reducible first | exact HB.out | apply below_alloc | apply pw_below_drewN | apply below_drew1) | exact HB.out)))); have n1_ := Aside0.mk (below_step (by repeat (first | (with_reducible first | exact HB.out | apply below_alloc | apply pw_below_drewN | apply below_drew1) | exact HB.out)) hb); clear HB; have HO202 := n0_; have HB := n1_; clear n0_ n1_; clear hb ho34; obtain ⟨Ao35, co35, eo35⟩ := Kd.R_slice HO202.out; subst eo35) | ((with_reducible refine gate_callee (f := 53) rfl ?_); refine goesL_ (some 14) rfl rfl Try.func53 (by kernel_rfl) rfl #[.slice A0 l0.length c0, .slice Ao35 y200.length co35] rfl (by (try simp only [List.map_toArray, List.map_cons, List.map_nil]); first | done | rfl | (simp only [List.length_drop, List.length_take]; rfl)) ?_; (with_reducible refine (suffix_place.calls k _ _ l0 _ _ y200 t203 _ ?side1 ?side2 ?side3 ?side4 A3.out).mono ?_); (case side1 => repeat (first | exact (Kd.C_below HR0.out HB.out) | (with_reducible refine Kd.C_alloc ?_ _) | (with_reducible refine Kd.C_drewN ?_ _) | (with_reducible refine Kd.C_drew ?_))); (case side2 => exact HC0.out); (case side3 => repeat (first | exact (Kd.R_reads' HO202.out).2.2 | (with_reducible refine Kd.C_alloc ?_ _) | (with_reducible refine Kd.C_drewN ?_ _) | (with_reducible refine Kd.C_drew ?_))); (case side4 => exact (Kd.R_reads' HO202.out).2.1); rintro e w' ⟨rfl, ⟨nd, rfl⟩⟩; refine ⟨_, rfl, ?_⟩) | ((with_reducible refine gate_callee (f := 23) rfl ?_); refine goesL_ (some 20) rfl rfl Try.func23 (by kernel_rfl) rfl #[.slice A0 l0.length c0] rfl (by (try simp only [List.map_toArray, List.map_cons, List.map_nil]); first | done | rfl | (simp only [List.length_drop, List.length_take]; rfl)) ?_; (with_reducible refine (suffix_Firsts.calls k _ _ l0 t204 t205 _ ?side1 ?side2 A5.out).mono ?_); (case side1 => repeat (first | exact (Kd.C_below HR0.out (by repeat (first | (with_reducible first | exact HB.out | apply below_alloc | apply pw_below_drewN | apply below_drew1) | exact HB.out))) | (with_reducible refine Kd.C_alloc ?_ _) | (with_reducible refine Kd.C_drewN ?_ _) | (with_reducible refine Kd.C_drew ?_))); (case side2 => exact HC0.out); rintro e w36 ⟨v206, rfl, ho0, hb⟩; refine ⟨_, rfl, ?_⟩; have n0_ := Aside0.mk (Kd.R_elder' (by (with_reducible repeat (first | apply Kd.R_alloc | apply Kd.R_drewN | apply Kd.R_drew)); exact HO202.out) (Kd.R_base ho0) hb); have n1_ := Aside0.mk (Kd.R_lower (Kd.R_new' ho0 (Kd.R_lt (by (with_reducible repeat (first | apply Kd.R_alloc | apply Kd.R_drewN | apply Kd.R_drew)); exact HO202.out))) (below_size (by repeat (first | (with_reducible first | exact HB.out | apply below_alloc | apply pw_below_drewN | apply below_drew1) | exact HB.out)))); have n2_ := Aside0.mk (below_step (by repeat (first | (with_reducible first | exact HB.out | apply below_alloc | apply pw_below_drewN | apply below_drew1) | exact HB.out)) hb); clear HO202; clear HB; have HO202 := n0_; have HO207 := n1_; have HB := n2_; clear n0_ n1_ n2_; (try clear hb); (try clear hb2); (try clear hk); (try clear hi); (try clear ho0); obtain ⟨Ao37, co37, eo37⟩ := Kd.R_slice HO207.out; subst eo37) | ((with_reducible refine gate_callee (f := 54) rfl ?_); refine goesL_ (some 26) rfl rfl Try.func54 (by kernel_rfl) rfl #[.slice Ao37 t204.length co37, .int .i64 a1] rfl (by (try simp only [List.map_toArray, List.map_cons, List.map_nil]); first | done | rfl | (simp only [List.length_drop, List.length_take]; rfl)) ?_; (with_reducible refine (slices_BinarySearch_int_int.calls k _ _ t204 a1 t208 false _ ?side1 ?side2 A6.out).mono ?_); (case side1 => repeat (first | exact (Kd.R_reads' HO207.out).2.2 | (with_reducible refine Kd.C_alloc ?_ _) | (with_reducible refine Kd.C_drewN ?_ _) | (with_reducible refine Kd.C_drew ?_))); (case side2 => exact (Kd.R_reads' HO207.out).2.1); rintro e w' ⟨rfl, ⟨nd, rfl⟩⟩; refine ⟨_, rfl, ?_⟩))
   go_ret2
   exact ⟨_, by first | rfl | (rw [hSL17.out]; first | rfl | simp) | (rw [hSL31.out]; first | rfl | simp) | (simp [errW_none, errW_some] <;> rfl) | (simp [*, errW_none, errW_some] <;> rfl), by first | exact Kd.R_nil _ _ _ _ _ | exact Kd.N_nil _ _ _ _ _ | exact Kd.V_nil _ _ _ _ _ | exact Kd.Q_nil _ _ _ _ _ | exact Kd.S_nil _ _ _ _ _, by repeat (first | (with_reducible first | exact HB.out | apply below_alloc | apply pw_below_drewN | apply below_drew1) | exact HB.out)⟩
 ·rw [if_neg c4] at H
  have c4b0 : (t203 == 0) = false := beq_eq_false_iff_ne.mpr c4
  have c4b1 : (t203 != 0) = true := bne_iff_ne.mpr c4
  simp only [Option.some.injEq, Prod.mk.injEq] at H
  obtain ⟨rfl, rfl⟩ := H
  go_enter Try.func25, Try.ntmps25
  go_wp2_with (first | ((with_reducible refine gate_dst (N := 13) rfl ?_); refine Kd.R_lit (Kd.int .i64) _ 3 ?hg (N := 13) ?hd (xs := ([a1] : List Int)) (inner := [.int .i64 a1]) (ok := fun _ => True) (okp := fun _ => True) ?hr ?hp (fun _ hk => hk) trivial (Below.refl _ _) (Nat.le_refl _) (by simp) ?_; (case hd => rfl); (case hg => rfl); (case hr => first | (go_simp; done) | (go_simp; rfl)); (case hp => exact (Reps.one (show Kd.M (Kd.int .i64) _ _ _ a1 [.int .i64 a1] from rfl) (Reps.none _ _))); intro v201 w38 ho39 hb hg_ hnew_; clear hg_ hnew_; (first | rw [← Ny200.out] at ho39 | (simp only [Int.reduceToNat] at ho39; rw [← Ny200.out] at ho39)); have n0_ := Aside0.mk (Kd.R_lower ho39 (below_size (by repeat (first | (with_reducible first | exact HB.out | apply below_alloc | apply pw_below_drewN | apply below_drew1) | exact HB.out)))); have n1_ := Aside0.mk (below_step (by repeat (first | (with_reducible first | exact HB.out | apply below_alloc | apply pw_below_drewN | apply below_drew1) | exact HB.out)) hb); clear HB; have HO202 := n0_; have HB := n1_; clear n0_ n1_; clear hb ho39; obtain ⟨Ao40, co40, eo40⟩ := Kd.R_slice HO202.out; subst eo40) | ((with_reducible refine gate_callee (f := 53) rfl ?_); refine goesL_ (some 14) rfl rfl Try.func53 (by kernel_rfl) rfl #[.slice A0 l0.length c0, .slice Ao40 y200.length co40] rfl (by (try simp only [List.map_toArray, List.map_cons, List.map_nil]); first | done | rfl | (simp only [List.length_drop, List.length_take]; rfl)) ?_; (with_reducible refine (suffix_place.calls k _ _ l0 _ _ y200 t203 _ ?side1 ?side2 ?side3 ?side4 A3.out).mono ?_); (case side1 => repeat (first | exact (Kd.C_below HR0.out HB.out) | (with_reducible refine Kd.C_alloc ?_ _) | (with_reducible refine Kd.C_drewN ?_ _) | (with_reducible refine Kd.C_drew ?_))); (case side2 => exact HC0.out); (case side3 => repeat (first | exact (Kd.R_reads' HO202.out).2.2 | (with_reducible refine Kd.C_alloc ?_ _) | (with_reducible refine Kd.C_drewN ?_ _) | (with_reducible refine Kd.C_drew ?_))); (case side4 => exact (Kd.R_reads' HO202.out).2.1); rintro e w' ⟨rfl, ⟨nd, rfl⟩⟩; refine ⟨_, rfl, ?_⟩))
  go_ret2
  exact ⟨_, by first | rfl | (rw [hSL17.out]; first | rfl | simp) | (rw [hSL31.out]; first | rfl | simp) | (simp [errW_none, errW_some] <;> rfl) | (simp [*, errW_none, errW_some] <;> rfl), by first | exact Kd.R_nil _ _ _ _ _ | exact Kd.N_nil _ _ _ _ _ | exact Kd.V_nil _ _ _ _ _ | exact Kd.Q_nil _ _ _ _ _ | exact Kd.S_nil _ _ _ _ _, by repeat (first | (with_reducible first | exact HB.out | apply below_alloc | apply pw_below_drewN | apply below_drew1) | exact HB.out)⟩

/-! ### suffix_common: function 56 -/
def suffix_common.l0 : Nat → List Int → Int → Int → Int → Option (Int)
 | 0, _, _, _, _ => none
 | k + 1, x0, x1, x2, x7 => if (wrap64 ((mx x1 x2) + x7)) < (x0.length : Int) then (if 0 ≤ (wrap64 (x1 + x7)) then (if (wrap64 (x1 + x7)) < (x0.length : Int) then (if 0 ≤ (wrap64 (x2 + x7)) then (if (wrap64 (x2 + x7)) < (x0.length : Int) then (if (rd x0 (wrap64 (x1 + x7))) = (rd x0 (wrap64 (x2 + x7))) then (suffix_common.l0 k x0 x1 x2 (wrap64 (x7 + 1))) else (some x7)) else (none)) else (none)) else (none)) else (none)) else (some x7)
def suffix_common.f (k : Nat) (l0 : List Int) (a1 : Int) (a2 : Int) : Option (Int) := suffix_common.l0 k l0 a1 a2 0
theorem suffix_common.mono_l : ∀ k, (∀ y0 y1 y2 y3, LeO (suffix_common.l0 k y0 y1 y2 y3) (suffix_common.l0 (k + 1) y0 y1 y2 y3))
 | 0 => fun _ _ _ _ r h => by simp [suffix_common.l0] at h
 | k + 1 => by
  have ih0 := suffix_common.mono_l k
  ·intro y0 y1 y2 y3
   unfold suffix_common.l0
   repeat' first
   | (with_reducible exact ih0 _ _ _ _)
   | (with_reducible exact LeO.refl _)
   | (with_reducible exact LeO.none _)
   | (with_reducible refine LeO.ite ?_ ?_)
   | (with_reducible refine LeO.bind ?_ (fun _ => ?_))
   | exact ih0 _ _ _ _
   | exact LeO.none _
   | refine LeO.ite ?_ ?_
   | refine LeO.bind ?_ (fun _ => ?_)
theorem suffix_common.mono : ∀ a0 a1 a2 k, LeO (suffix_common.f k a0 a1 a2) (suffix_common.f (k + 1) a0 a1 a2) := by
 intro a0 a1 a2 k
 have ih0 := suffix_common.mono_l k
 unfold suffix_common.f
 repeat' first
   | (with_reducible exact ih0 _ _ _ _)
   | (with_reducible exact LeO.refl _)
   | (with_reducible exact LeO.none _)
   | (with_reducible refine LeO.ite ?_ ?_)
   | (with_reducible refine LeO.bind ?_ (fun _ => ?_))
   | exact ih0 _ _ _ _
   | exact LeO.none _
   | refine LeO.ite ?_ ?_
   | refine LeO.bind ?_ (fun _ => ?_)
set_option maxHeartbeats 8000000 in
set_option maxRecDepth 100000 in
theorem suffix_common.calls (k : Nat) (A0 : Option Addr) (c0 : Nat) (l0 : List Int) (a1 : Int) (a2 : Int) (r : Int) (w : World) (hr0 : Kd.C (Kd.int .i64) w A0 l0.length l0) (hc0 : l0.length ≤ c0) (h : suffix_common.f k l0 a1 a2 = some r) :
  Calls Try.prog 56 #[.slice A0 l0.length c0, .int .i64 a1, .int .i64 a2] w fun e w' => e = .returned (.int .i64 r) ∧ Below w.heap.size w w' := by
 have HR0 := Aside0.mk hr0
 have HC0 := Aside0.mk hc0
 clear hr0 hc0
 have HB := Aside0.mk (Below.refl w.heap.size w)
 have H : (suffix_common.l0 k l0 a1 a2 0) = some r := h
 clear h
 have H' := Aside0.mk H
 clear H
 go_enter Try.func56, Try.ntmps56
 go_wp2
 repeat (go_quiet (fail); try go_wp2)
 go_loopg [7] k (fun kq v7 w' => ∃ (x7_1 : Int), v7 = .int .i64 x7_1 ∧ Aside0 (suffix_common.l0 kq l0 a1 a2 x7_1 = some r) ∧ Aside0 (kq ≤ k) ∧ Aside0 (Below w.heap.size w w'))
 case atStart => exact ⟨(0), (by first | rfl | (simp; done) | (simp [*]; done)), H', ⟨Nat.le_refl _⟩, ⟨by repeat (first | (with_reducible first | exact HB.out | apply below_alloc | apply pw_below_drewN | apply below_drew1) | exact HB.out)⟩⟩
 case round =>
  clear H'
  try clear p2
  obtain ⟨x7_1, rfl, HA, HK1, HB⟩ := hrel
  cases gk with
  | zero => exact absurd HA.out (by simp [suffix_common.l0])
  | succ k1 =>
   have H := HA.out
   clear HA
   simp only [suffix_common.l0] at H
   obtain ⟨ji4, hji4⟩ : ∃ j_ : Int, (mx a1 a2) = j_ := ⟨_, rfl⟩
   replace H : (if (wrap64 ((ji4) + x7_1)) < (l0.length : Int) then (if 0 ≤ (wrap64 (a1 + x7_1)) then (if (wrap64 (a1 + x7_1)) < (l0.length : Int) then (if 0 ≤ (wrap64 (a2 + x7_1)) then (if (wrap64 (a2 + x7_1)) < (l0.length : Int) then (if (rd l0 (wrap64 (a1 + x7_1))) = (rd l0 (wrap64 (a2 + x7_1))) then (suffix_common.l0 k1 l0 a1 a2 (wrap64 (x7_1 + 1))) else (some x7_1)) else (none)) else (none)) else (none)) else (none)) else (some x7_1)) = some r := by first | (rw [hji4] at H; exact H) | (simp only [hji4] at H ⊢; exact H)
   have hji4_ : (if a1 < a2 then a2 else a1) = ji4 := hji4
   by_cases c5 : (wrap64 ((ji4) + x7_1)) < (l0.length : Int)
   ·rw [if_pos c5] at H
    have c5b0 : decide ((wrap64 ((ji4) + x7_1)) < (l0.length : Int)) = true := decide_eq_true c5
    clear c5
    obtain ⟨ji6, hji6⟩ : ∃ j_ : Int, (wrap64 (a1 + x7_1)) = j_ := ⟨_, rfl⟩
    replace H : (if 0 ≤ (ji6) then (if (ji6) < (l0.length : Int) then (if 0 ≤ (wrap64 (a2 + x7_1)) then (if (wrap64 (a2 + x7_1)) < (l0.length : Int) then (if (rd l0 (ji6)) = (rd l0 (wrap64 (a2 + x7_1))) then (suffix_common.l0 k1 l0 a1 a2 (wrap64 (x7_1 + 1))) else (some x7_1)) else (none)) else (none)) else (none)) else (none)) = some r := by first | (rw [hji6] at H; exact H) | (simp only [hji6] at H ⊢; exact H)
    have hji6w : (IntKind.i64.wrap (a1 + x7_1)) = ji6 := (i64_w _).trans hji6
    by_cases c7 : 0 ≤ (ji6)
    ·rw [if_pos c7] at H
     have c7b0 : decide (0 ≤ (ji6)) = true := decide_eq_true c7
     clear c7
     by_cases c8 : (ji6) < (l0.length : Int)
     ·rw [if_pos c8] at H
      have c8b0 : decide ((ji6) < (l0.length : Int)) = true := decide_eq_true c8
      clear c8
      obtain ⟨ji9, hji9⟩ : ∃ j_ : Int, (wrap64 (a2 + x7_1)) = j_ := ⟨_, rfl⟩
      replace H : (if 0 ≤ (ji9) then (if (ji9) < (l0.length : Int) then (if (rd l0 (ji6)) = (rd l0 (ji9)) then (suffix_common.l0 k1 l0 a1 a2 (wrap64 (x7_1 + 1))) else (some x7_1)) else (none)) else (none)) = some r := by first | (rw [hji9] at H; exact H) | (simp only [hji9] at H ⊢; exact H)
      have hji9w : (IntKind.i64.wrap (a2 + x7_1)) = ji9 := (i64_w _).trans hji9
      by_cases c10 : 0 ≤ (ji9)
      ·rw [if_pos c10] at H
       have c10b0 : decide (0 ≤ (ji9)) = true := decide_eq_true c10
       clear c10
       by_cases c11 : (ji9) < (l0.length : Int)
       ·rw [if_pos c11] at H
        have c11b0 : decide ((ji9) < (l0.length : Int)) = true := decide_eq_true c11
        clear c11
        by_cases c12 : (rd l0 (ji6)) = (rd l0 (ji9))
        ·rw [if_pos c12] at H
         have c12b0 : ((rd l0 (ji6)) == (rd l0 (ji9))) = true := beq_iff_eq.mpr c12
         have c12b1 : ((rd l0 (ji6)) != (rd l0 (ji9))) = false := bne_eq_false_iff_eq.mpr c12
         clear c12
         have H' := Aside0.mk H
         clear H
         have p219 : 0 ≤ ((ji6) : Int) := of_decide_eq_true (by first | (with_reducible assumption) | assumption)
         have q219 : (ji6) < (l0.length : Int) := of_decide_eq_true (by first | (with_reducible assumption) | assumption)
         obtain ⟨ad219, e219, hx219_0⟩ := Kd.at_int HR0.out (ji6) p219 q219
         cases e219
         replace hx219_0 := (HB.out.cell (World.block_lt_of_cell? w _ hx219_0)).trans hx219_0
         replace p219 := eq_true p219
         replace q219 := eq_true q219
         have p220 : 0 ≤ ((ji9) : Int) := of_decide_eq_true (by first | (with_reducible assumption) | assumption)
         have q220 : (ji9) < (l0.length : Int) := of_decide_eq_true (by first | (with_reducible assumption) | assumption)
         obtain ⟨ad220, e220, hx220_0⟩ := Kd.at_int HR0.out (ji9) p220 q220
         obtain rfl : ad219 = ad220 := (by injection e220)
         replace hx220_0 := (HB.out.cell (World.block_lt_of_cell? w _ hx220_0)).trans hx220_0
         replace p220 := eq_true p220
         replace q220 := eq_true q220
         go_wp2
         repeat (go_quiet (fail); try go_wp2)
         go_roundg k1
         case measure => have := HK1.out; omega
         case rel => exact ⟨(wrap64 (x7_1 + 1)), (by first | rfl | (simp; done) | (simp [*]; done)), H', ⟨by have := HK1.out; omega⟩, ⟨by repeat (first | (with_reducible first | exact HB.out | apply below_alloc | apply pw_below_drewN | apply below_drew1) | exact HB.out)⟩⟩
        ·rw [if_neg c12] at H
         have c12b0 : ((rd l0 (ji6)) == (rd l0 (ji9))) = false := beq_eq_false_iff_ne.mpr c12
         have c12b1 : ((rd l0 (ji6)) != (rd l0 (ji9))) = true := bne_iff_ne.mpr c12
         obtain rfl := Option.some.inj H
         have p219 : 0 ≤ ((ji6) : Int) := of_decide_eq_true (by first | (with_reducible assumption) | assumption)
         have q219 : (ji6) < (l0.length : Int) := of_decide_eq_true (by first | (with_reducible assumption) | assumption)
         obtain ⟨ad219, e219, hx219_0⟩ := Kd.at_int HR0.out (ji6) p219 q219
         cases e219
         replace hx219_0 := (HB.out.cell (World.block_lt_of_cell? w _ hx219_0)).trans hx219_0
         replace p219 := eq_true p219
         replace q219 := eq_true q219
         have p220 : 0 ≤ ((ji9) : Int) := of_decide_eq_true (by first | (with_reducible assumption) | assumption)
         have q220 : (ji9) < (l0.length : Int) := of_decide_eq_true (by first | (with_reducible assumption) | assumption)
         obtain ⟨ad220, e220, hx220_0⟩ := Kd.at_int HR0.out (ji9) p220 q220
         obtain rfl : ad219 = ad220 := (by injection e220)
         replace hx220_0 := (HB.out.cell (World.block_lt_of_cell? w _ hx220_0)).trans hx220_0
         replace p220 := eq_true p220
         replace q220 := eq_true q220
         go_wp2
         repeat (go_quiet (fail); try go_wp2)
         go_ret
         exact ⟨by first | rfl | (simp [errW_none, errW_some] <;> rfl) | (simp only [← hji4, ← hji6, ← hji9]; first | rfl | (simp [errW_none, errW_some] <;> rfl)) | (simp [*, errW_none, errW_some] <;> rfl), by repeat (first | (with_reducible first | exact HB.out | apply below_alloc | apply pw_below_drewN | apply below_drew1) | exact HB.out)⟩
       ·rw [if_neg c11] at H
        exact absurd H (by simp)
      ·rw [if_neg c10] at H
       exact absurd H (by simp)
     ·rw [if_neg c8] at H
      exact absurd H (by simp)
    ·rw [if_neg c7] at H
     exact absurd H (by simp)
   ·rw [if_neg c5] at H
    have c5b0 : decide ((wrap64 ((ji4) + x7_1)) < (l0.length : Int)) = false := decide_eq_false c5
    clear c5
    obtain rfl := Option.some.inj H
    go_wp2
    repeat (go_quiet (fail); try go_wp2)
    go_ret
    exact ⟨by first | rfl | (simp [errW_none, errW_some] <;> rfl) | (simp only [← hji4]; first | rfl | (simp [errW_none, errW_some] <;> rfl)) | (simp [*, errW_none, errW_some] <;> rfl), by repeat (first | (with_reducible first | exact HB.out | apply below_alloc | apply pw_below_drewN | apply below_drew1) | exact HB.out)⟩

end Go.Proofs.Ythkofhidhghmmaa.PSufC
