-- Written by a program of this session (wip/tools/pp.sh, on the pattern of the kit's print): not typed by hand.
import Derived.Test.YtmmacpicbonhhaaPSaix0
import Derived.Test.YtmmacpicbonhhaaPSaix1
namespace Go.Proofs.Ytmmacpicbonhhaa.PSai
set_option maxRecDepth 100000
open Go.RowKit Go.Proofs.YtmmacpicbonhhaaW.PrintWords Go.Proofs.YtmmacpicbonhhaaW.PrintLast Go.Proofs.YtmmacpicbonhhaaW.PrintMore
attribute [local go_sem] max2_int min2_int max_two min_two max_three min_three max_four min_four   -- for this text's walks alone
set_option linter.unusedVariables false
set_option linter.unusedSimpArgs false

/-! ### suffix_Right: function 33 -/
mutual
def suffix_Right.j0 : Nat → List Int → List Int → List Int → Bool → Option (Bool)
 | 0, _, _, _, _ => none
 | k + 1, x0, x1, x5, x28 => if x28 = true then (some false) else (suffix_Right.l0 k x0 x1 x5 1)
def suffix_Right.l0 : Nat → List Int → List Int → List Int → Int → Option (Bool)
 | 0, _, _, _, _ => none
 | k + 1, x0, x1, x5, x7 => if x7 < (x1.length : Int) then (if 0 ≤ (wrap64 (x7 - 1)) then (if (wrap64 (x7 - 1)) < (x1.length : Int) then (if 0 ≤ x7 then (if 0 ≤ (rd x1 (wrap64 (x7 - 1))) then (if (rd x1 (wrap64 (x7 - 1))) < (x0.length : Int) then (if 0 ≤ (rd x1 x7) then (if (rd x1 x7) < (x0.length : Int) then (if (rd x0 (rd x1 (wrap64 (x7 - 1)))) > (rd x0 (rd x1 x7)) then (some false) else (if (rd x0 (rd x1 (wrap64 (x7 - 1)))) = (rd x0 (rd x1 x7)) then (if 0 ≤ (wrap64 ((rd x1 (wrap64 (x7 - 1))) + 1)) then (if (wrap64 ((rd x1 (wrap64 (x7 - 1))) + 1)) < (x5.length : Int) then (if 0 ≤ (wrap64 ((rd x1 x7) + 1)) then (if (wrap64 ((rd x1 x7) + 1)) < (x5.length : Int) then (if (rd x5 (wrap64 ((rd x1 (wrap64 (x7 - 1))) + 1))) > (rd x5 (wrap64 ((rd x1 x7) + 1))) then (some false) else (suffix_Right.l0 k x0 x1 x5 (wrap64 (x7 + 1)))) else (none)) else (none)) else (none)) else (none)) else (suffix_Right.l0 k x0 x1 x5 (wrap64 (x7 + 1))))) else (none)) else (none)) else (none)) else (none)) else (none)) else (none)) else (none)) else (some true)
end
def suffix_Right.f (k : Nat) (l0 : List Int) (l1 : List Int) : Option (Bool) := (suffix_Turned.f k l1).bind fun bt109 => (if bt109.2 = 0 then (if (l1.length : Int) = (l0.length : Int) then ((suffix_Check.f k l0).bind fun t113 => (suffix_Right.j0 k l0 l1 bt109.1 (t113 != 0))) else (suffix_Right.j0 k l0 l1 bt109.1 true)) else (suffix_Right.j0 k l0 l1 bt109.1 true))
theorem suffix_Right.mono_l : ∀ k, (∀ y0 y1 y2 y3, LeO (suffix_Right.j0 k y0 y1 y2 y3) (suffix_Right.j0 (k + 1) y0 y1 y2 y3)) ∧ (∀ y0 y1 y2 y3, LeO (suffix_Right.l0 k y0 y1 y2 y3) (suffix_Right.l0 (k + 1) y0 y1 y2 y3))
 | 0 => ⟨fun _ _ _ _ r h => by simp [suffix_Right.j0] at h, fun _ _ _ _ r h => by simp [suffix_Right.l0] at h⟩
 | k + 1 => by
  obtain ⟨ih0, ih1⟩ := suffix_Right.mono_l k
  refine ⟨?_, ?_⟩
  ·intro y0 y1 y2 y3
   unfold suffix_Right.j0
   repeat' first
   | (with_reducible exact ih0 _ _ _ _)
   | (with_reducible exact ih1 _ _ _ _)
   | (with_reducible exact suffix_Check.mono _ _)
   | (with_reducible exact suffix_Turned.mono _ _)
   | (with_reducible exact LeO.refl _)
   | (with_reducible exact LeO.none _)
   | (with_reducible refine LeO.ite ?_ ?_)
   | (with_reducible refine LeO.bind ?_ (fun _ => ?_))
   | exact ih0 _ _ _ _
   | exact ih1 _ _ _ _
   | exact suffix_Check.mono _ _
   | exact suffix_Turned.mono _ _
   | exact LeO.none _
   | refine LeO.ite ?_ ?_
   | refine LeO.bind ?_ (fun _ => ?_)
  ·intro y0 y1 y2 y3
   unfold suffix_Right.l0
   repeat' first
   | (with_reducible exact ih0 _ _ _ _)
   | (with_reducible exact ih1 _ _ _ _)
   | (with_reducible exact suffix_Check.mono _ _)
   | (with_reducible exact suffix_Turned.mono _ _)
   | (with_reducible exact LeO.refl _)
   | (with_reducible exact LeO.none _)
   | (with_reducible refine LeO.ite ?_ ?_)
   | (with_reducible refine LeO.bind ?_ (fun _ => ?_))
   | exact ih0 _ _ _ _
   | exact ih1 _ _ _ _
   | exact suffix_Check.mono _ _
   | exact suffix_Turned.mono _ _
   | exact LeO.none _
   | refine LeO.ite ?_ ?_
   | refine LeO.bind ?_ (fun _ => ?_)
theorem suffix_Right.mono : ∀ a0 a1 k, LeO (suffix_Right.f k a0 a1) (suffix_Right.f (k + 1) a0 a1) := by
 intro a0 a1 k
 obtain ⟨ih0, ih1⟩ := suffix_Right.mono_l k
 unfold suffix_Right.f
 repeat' first
   | (with_reducible exact ih0 _ _ _ _)
   | (with_reducible exact ih1 _ _ _ _)
   | (with_reducible exact suffix_Check.mono _ _)
   | (with_reducible exact suffix_Turned.mono _ _)
   | (with_reducible exact LeO.refl _)
   | (with_reducible exact LeO.none _)
   | (with_reducible refine LeO.ite ?_ ?_)
   | (with_reducible refine LeO.bind ?_ (fun _ => ?_))
   | exact ih0 _ _ _ _
   | exact ih1 _ _ _ _
   | exact suffix_Check.mono _ _
   | exact suffix_Turned.mono _ _
   | exact LeO.none _
   | refine LeO.ite ?_ ?_
   | refine LeO.bind ?_ (fun _ => ?_)
set_option maxHeartbeats 8000000 in
set_option maxRecDepth 100000 in
theorem suffix_Right.calls (k : Nat) (A0 : Option Addr) (c0 : Nat) (l0 : List Int) (A1 : Option Addr) (c1 : Nat) (l1 : List Int) (r : Bool) (w : World) (hr0 : Kd.C (Kd.int .i64) w A0 l0.length l0) (hc0 : l0.length ≤ c0) (hr1 : Kd.C (Kd.int .i64) w A1 l1.length l1) (hc1 : l1.length ≤ c1) (h : suffix_Right.f k l0 l1 = some r) :
  Calls Try.prog 33 #[.slice A0 l0.length c0, .slice A1 l1.length c1] w fun e w' => e = .returned (.bool r) ∧ Below w.heap.size w w' := by
 have HR0 := Aside0.mk hr0
 have HC0 := Aside0.mk hc0
 clear hr0 hc0
 have HR1 := Aside0.mk hr1
 have HC1 := Aside0.mk hc1
 clear hr1 hc1
 have HB := Aside0.mk (Below.refl w.heap.size w)
 have H : ((suffix_Turned.f k l1).bind fun bt109 => (if bt109.2 = 0 then (if (l1.length : Int) = (l0.length : Int) then ((suffix_Check.f k l0).bind fun t113 => (suffix_Right.j0 k l0 l1 bt109.1 (t113 != 0))) else (suffix_Right.j0 k l0 l1 bt109.1 true)) else (suffix_Right.j0 k l0 l1 bt109.1 true))) = some r := h
 clear h
 replace H := Option.bind_eq_some_iff.mp H
 obtain ⟨⟨t109, t110⟩, A30, H⟩ := H
 replace H : (if t110 = 0 then (if (l1.length : Int) = (l0.length : Int) then ((suffix_Check.f k l0).bind fun t113 => (suffix_Right.j0 k l0 l1 t109 (t113 != 0))) else (suffix_Right.j0 k l0 l1 t109 true)) else (suffix_Right.j0 k l0 l1 t109 true)) = some r := H
 have A3 := Aside0.mk A30
 clear A30
 have HC4 := Aside0.mk H
 clear H
 go_enter Try.func33, Try.ntmps33
 go_upto_region 2 with (first | (go_at_call 46; (with_reducible refine (suffix_Turned.calls k _ _ l1 t109 t110 _ ?side1 ?side2 A3.out).mono ?_); (case side1 => repeat (first | exact HR1.out | (with_reducible refine Kd.C_alloc ?_ _) | (with_reducible refine Kd.C_drewN ?_ _) | (with_reducible refine Kd.C_drew ?_))); (case side2 => exact HC1.out); rintro e w5 ⟨v111, rfl, ho0, hb⟩; have n0_ := Aside0.mk (Kd.R_lower ho0 (below_size (by repeat (first | (with_reducible first | exact HB.out | apply below_alloc | apply pw_below_drewN | apply below_drew1) | exact HB.out)))); have n1_ := Aside0.mk (below_step (by repeat (first | (with_reducible first | exact HB.out | apply below_alloc | apply pw_below_drewN | apply below_drew1) | exact HB.out)) hb); clear HB; have HO112 := n0_; have HB := n1_; clear n0_ n1_; (try clear hb); (try clear hb2); (try clear hk); (try clear hi); (try clear ho0)))
 repeat (go_quiet (first | (go_at_call 46; (with_reducible refine (suffix_Turned.calls k _ _ l1 t109 t110 _ ?side1 ?side2 A3.out).mono ?_); (case side1 => repeat (first | exact HR1.out | (with_reducible refine Kd.C_alloc ?_ _) | (with_reducible refine Kd.C_drewN ?_ _) | (with_reducible refine Kd.C_drew ?_))); (case side2 => exact HC1.out); rintro e w5 ⟨v111, rfl, ho0, hb⟩; have n0_ := Aside0.mk (Kd.R_lower ho0 (below_size (by repeat (first | (with_reducible first | exact HB.out | apply below_alloc | apply pw_below_drewN | apply below_drew1) | exact HB.out)))); have n1_ := Aside0.mk (below_step (by repeat (first | (with_reducible first | exact HB.out | apply below_alloc | apply pw_below_drewN | apply below_drew1) | exact HB.out)) hb); clear HB; have HO112 := n0_; have HB := n1_; clear n0_ n1_; (try clear hb); (try clear hb2); (try clear hk); (try clear hi); (try clear ho0))); go_upto_region 2 with (first | (go_at_call 46; (with_reducible refine (suffix_Turned.calls k _ _ l1 t109 t110 _ ?side1 ?side2 A3.out).mono ?_); (case side1 => repeat (first | exact HR1.out | (with_reducible refine Kd.C_alloc ?_ _) | (with_reducible refine Kd.C_drewN ?_ _) | (with_reducible refine Kd.C_drew ?_))); (case side2 => exact HC1.out); rintro e w5 ⟨v111, rfl, ho0, hb⟩; have n0_ := Aside0.mk (Kd.R_lower ho0 (below_size (by repeat (first | (with_reducible first | exact HB.out | apply below_alloc | apply pw_below_drewN | apply below_drew1) | exact HB.out)))); have n1_ := Aside0.mk (below_step (by repeat (first | (with_reducible first | exact HB.out | apply below_alloc | apply pw_below_drewN | apply below_drew1) | exact HB.out)) hb); clear HB; have HO112 := n0_; have HB := n1_; clear n0_ n1_; (try clear hb); (try clear hb2); (try clear hk); (try clear hi); (try clear ho0))))
 (try simp only [Act.put, List.setIfInBounds_toArray, List.set_cons_zero, List.set_cons_succ])
 go_cut [28] (fun v28 wc => ∃ (kq : Nat) (x28_3 : Bool), v28 = .bool x28_3 ∧ Aside0 (suffix_Right.j0 kq l0 l1 t109 x28_3 = some r) ∧ Aside0 (kq ≤ k) ∧ Aside0 (Kd.R (Kd.int .i64) 3 wc w.heap.size (fun _ => True) v111 t109) ∧ Aside0 (Below w.heap.size w wc))
 case first =>
  have H := HC4.out
  clear HC4
  by_cases c6 : t110 = 0
  ·rw [if_pos c6] at H
   have c6b0 : (t110 == 0) = true := beq_iff_eq.mpr c6
   have c6b1 : (t110 != 0) = false := bne_eq_false_iff_eq.mpr c6
   clear c6
   (first | rw [c6b0] | (simp only [i64_w, i32_w]; rw [c6b0]) | skip)
   by_cases c7 : (l1.length : Int) = (l0.length : Int)
   ·rw [if_pos c7] at H
    have c7b0 : ((l1.length : Int) == (l0.length : Int)) = true := beq_iff_eq.mpr c7
    have c7b1 : ((l1.length : Int) != (l0.length : Int)) = false := bne_eq_false_iff_eq.mpr c7
    have c7b2 : (l1.length == l0.length) = true := by first | simpa using c7 | (simp at c7 ⊢; omega)
    clear c7
    replace H := Option.bind_eq_some_iff.mp H
    obtain ⟨t113, A80, H⟩ := H
    replace H : (suffix_Right.j0 k l0 l1 t109 (t113 != 0)) = some r := H
    have A8 := Aside0.mk A80
    clear A80
    have H' := Aside0.mk H
    clear H
    go_wp2_with (first | (go_at_call 45; (with_reducible refine (suffix_Check.calls k _ _ l0 t113 _ ?side1 ?side2 A8.out).mono ?_); (case side1 => repeat (first | exact (Kd.C_below HR0.out HB.out) | (with_reducible refine Kd.C_alloc ?_ _) | (with_reducible refine Kd.C_drewN ?_ _) | (with_reducible refine Kd.C_drew ?_))); (case side2 => exact HC0.out); rintro e w' ⟨rfl, ⟨nd, rfl⟩⟩; (try first | exact ⟨rfl, _, World.drewN_drewN _ _ _⟩ | exact ⟨rfl, _, Eq.trans (World.drewN_drewN _ _ _) (congrArg (World.drewN _) (Nat.add_assoc _ _ _))⟩)))
    repeat (go_quiet (first | (go_at_call 45; (with_reducible refine (suffix_Check.calls k _ _ l0 t113 _ ?side1 ?side2 A8.out).mono ?_); (case side1 => repeat (first | exact (Kd.C_below HR0.out HB.out) | (with_reducible refine Kd.C_alloc ?_ _) | (with_reducible refine Kd.C_drewN ?_ _) | (with_reducible refine Kd.C_drew ?_))); (case side2 => exact HC0.out); rintro e w' ⟨rfl, ⟨nd, rfl⟩⟩; (try first | exact ⟨rfl, _, World.drewN_drewN _ _ _⟩ | exact ⟨rfl, _, Eq.trans (World.drewN_drewN _ _ _) (congrArg (World.drewN _) (Nat.add_assoc _ _ _))⟩))); try go_wp2_with (first | (go_at_call 45; (with_reducible refine (suffix_Check.calls k _ _ l0 t113 _ ?side1 ?side2 A8.out).mono ?_); (case side1 => repeat (first | exact (Kd.C_below HR0.out HB.out) | (with_reducible refine Kd.C_alloc ?_ _) | (with_reducible refine Kd.C_drewN ?_ _) | (with_reducible refine Kd.C_drew ?_))); (case side2 => exact HC0.out); rintro e w' ⟨rfl, ⟨nd, rfl⟩⟩; (try first | exact ⟨rfl, _, World.drewN_drewN _ _ _⟩ | exact ⟨rfl, _, Eq.trans (World.drewN_drewN _ _ _) (congrArg (World.drewN _) (Nat.add_assoc _ _ _))⟩))))
    go_meet
    case rel => exact ⟨_, ((t113 != 0)), (by first | rfl | (simp; done) | (simp [*]; done)), H', ⟨by first | omega | exact Nat.le_refl _⟩, ⟨by (with_reducible repeat (first | apply Kd.R_alloc | apply Kd.R_drewN | apply Kd.R_drew)); exact HO112.out⟩, ⟨by repeat (first | (with_reducible first | exact HB.out | apply below_alloc | apply pw_below_drewN | apply below_drew1) | exact HB.out)⟩⟩
   ·rw [if_neg c7] at H
    have c7b0 : ((l1.length : Int) == (l0.length : Int)) = false := beq_eq_false_iff_ne.mpr c7
    have c7b1 : ((l1.length : Int) != (l0.length : Int)) = true := bne_iff_ne.mpr c7
    have c7b2 : (l1.length == l0.length) = false := by first | simpa using c7 | (simp at c7 ⊢; omega)
    have H' := Aside0.mk H
    clear H
    go_wp2
    repeat (go_quiet (fail); try go_wp2)
    go_meet
    case rel => exact ⟨_, (true), (by first | rfl | (simp; done) | (simp [*]; done)), H', ⟨by first | omega | exact Nat.le_refl _⟩, ⟨by (with_reducible repeat (first | apply Kd.R_alloc | apply Kd.R_drewN | apply Kd.R_drew)); exact HO112.out⟩, ⟨by repeat (first | (with_reducible first | exact HB.out | apply below_alloc | apply pw_below_drewN | apply below_drew1) | exact HB.out)⟩⟩
  ·rw [if_neg c6] at H
   have c6b0 : (t110 == 0) = false := beq_eq_false_iff_ne.mpr c6
   have c6b1 : (t110 != 0) = true := bne_iff_ne.mpr c6
   (first | rw [c6b0] | (simp only [i64_w, i32_w]; rw [c6b0]) | skip)
   have H' := Aside0.mk H
   clear H
   go_wp2
   repeat (go_quiet (fail); try go_wp2)
   go_meet
   case rel => exact ⟨_, (true), (by first | rfl | (simp; done) | (simp [*]; done)), H', ⟨by first | omega | exact Nat.le_refl _⟩, ⟨by (with_reducible repeat (first | apply Kd.R_alloc | apply Kd.R_drewN | apply Kd.R_drew)); exact HO112.out⟩, ⟨by repeat (first | (with_reducible first | exact HB.out | apply below_alloc | apply pw_below_drewN | apply below_drew1) | exact HB.out)⟩⟩
 case rest =>
  clear HC4
  try clear c1
  try clear p2
  try clear c3
  try clear c6
  try clear c6b0
  try clear c6b1
  try clear c7
  try clear c7b0
  try clear c7b1
  try clear c7b2
  obtain ⟨kq, x28_3, rfl, HA, HJ3, HO_5, HB⟩ := hcut
  cases kq with
  | zero => exact absurd HA.out (by simp [suffix_Right.j0])
  | succ kj3 =>
   have H := HA.out
   clear HA
   simp only [suffix_Right.j0] at H
   by_cases c9 : x28_3 = true
   ·subst c9
    have H1 : (some false) = some r := by rw [if_pos rfl] at H; exact H
    clear H
    have H := H1
    clear H1
    obtain rfl := Option.some.inj H
    go_wp2
    repeat (go_quiet (fail); try go_wp2)
    go_ret
    exact ⟨by first | rfl | (simp [errW_none, errW_some] <;> rfl) | (simp [*, errW_none, errW_some] <;> rfl), by repeat (first | (with_reducible first | exact HB.out | apply below_alloc | apply pw_below_drewN | apply below_drew1) | exact HB.out)⟩
   ·replace c9 := Bool.eq_false_iff.mpr c9
    subst c9
    have H1 : (suffix_Right.l0 kj3 l0 l1 t109 1) = some r := by rw [if_neg (show ¬ (false = true) by decide)] at H; exact H
    clear H
    have H := H1
    clear H1
    have H' := Aside0.mk H
    clear H
    go_wp2
    repeat (go_quiet (fail); try go_wp2)
    go_loopg [7] kj3 (fun kq v7 w' => ∃ (x7_2 : Int), v7 = .int .i64 x7_2 ∧ Aside0 (suffix_Right.l0 kq l0 l1 t109 x7_2 = some r) ∧ Aside0 (kq ≤ kj3) ∧ Aside0 (Kd.R (Kd.int .i64) 3 w' w.heap.size (fun _ => True) v111 t109) ∧ Aside0 (Below w.heap.size w w'))
    case atStart => exact ⟨(1), (by first | rfl | (simp; done) | (simp [*]; done)), H', ⟨Nat.le_refl _⟩, ⟨by (with_reducible repeat (first | apply Kd.R_alloc | apply Kd.R_drewN | apply Kd.R_drew)); exact HO_5.out⟩, ⟨by repeat (first | (with_reducible first | exact HB.out | apply below_alloc | apply pw_below_drewN | apply below_drew1) | exact HB.out)⟩⟩
    case round =>
     clear H'
     try clear c1
     try clear p2
     try clear c3
     try clear c6
     try clear c6b0
     try clear c6b1
     try clear c7
     try clear c7b0
     try clear c7b1
     try clear c7b2
     try clear c9
     try clear p2
     obtain ⟨x7_2, rfl, HA, HK2, HO_5, HB⟩ := hrel
     cases gk with
     | zero => exact absurd HA.out (by simp [suffix_Right.l0])
     | succ k2 =>
      have H := HA.out
      clear HA
      simp only [suffix_Right.l0] at H
      by_cases c10 : x7_2 < (l1.length : Int)
      ·rw [if_pos c10] at H
       have c10b0 : decide (x7_2 < (l1.length : Int)) = true := decide_eq_true c10
       clear c10
       obtain ⟨ji11, hji11⟩ : ∃ j_ : Int, (wrap64 (x7_2 - 1)) = j_ := ⟨_, rfl⟩
       replace H : (if 0 ≤ (ji11) then (if (ji11) < (l1.length : Int) then (if 0 ≤ x7_2 then (if 0 ≤ (rd l1 (ji11)) then (if (rd l1 (ji11)) < (l0.length : Int) then (if 0 ≤ (rd l1 x7_2) then (if (rd l1 x7_2) < (l0.length : Int) then (if (rd l0 (rd l1 (ji11))) > (rd l0 (rd l1 x7_2)) then (some false) else (if (rd l0 (rd l1 (ji11))) = (rd l0 (rd l1 x7_2)) then (if 0 ≤ (wrap64 ((rd l1 (ji11)) + 1)) then (if (wrap64 ((rd l1 (ji11)) + 1)) < (t109.length : Int) then (if 0 ≤ (wrap64 ((rd l1 x7_2) + 1)) then (if (wrap64 ((rd l1 x7_2) + 1)) < (t109.length : Int) then (if (rd t109 (wrap64 ((rd l1 (ji11)) + 1))) > (rd t109 (wrap64 ((rd l1 x7_2) + 1))) then (some false) else (suffix_Right.l0 k2 l0 l1 t109 (wrap64 (x7_2 + 1)))) else (none)) else (none)) else (none)) else (none)) else (suffix_Right.l0 k2 l0 l1 t109 (wrap64 (x7_2 + 1))))) else (none)) else (none)) else (none)) else (none)) else (none)) else (none)) else (none)) = some r := by first | (rw [hji11] at H; exact H) | (simp only [hji11] at H ⊢; exact H)
       have hji11w : (IntKind.i64.wrap (x7_2 - 1)) = ji11 := (i64_w _).trans hji11
       by_cases c12 : 0 ≤ (ji11)
       ·rw [if_pos c12] at H
        have c12b0 : decide (0 ≤ (ji11)) = true := decide_eq_true c12
        clear c12
        by_cases c13 : (ji11) < (l1.length : Int)
        ·rw [if_pos c13] at H
         have c13b0 : decide ((ji11) < (l1.length : Int)) = true := decide_eq_true c13
         clear c13
         by_cases c14 : 0 ≤ x7_2
         ·rw [if_pos c14] at H
          have c14b0 : decide (0 ≤ x7_2) = true := decide_eq_true c14
          clear c14
          by_cases c15 : 0 ≤ (rd l1 (ji11))
          ·rw [if_pos c15] at H
           have c15b0 : decide (0 ≤ (rd l1 (ji11))) = true := decide_eq_true c15
           clear c15
           by_cases c16 : (rd l1 (ji11)) < (l0.length : Int)
           ·rw [if_pos c16] at H
            have c16b0 : decide ((rd l1 (ji11)) < (l0.length : Int)) = true := decide_eq_true c16
            clear c16
            by_cases c17 : 0 ≤ (rd l1 x7_2)
            ·rw [if_pos c17] at H
             have c17b0 : decide (0 ≤ (rd l1 x7_2)) = true := decide_eq_true c17
             clear c17
             by_cases c18 : (rd l1 x7_2) < (l0.length : Int)
             ·rw [if_pos c18] at H
              have c18b0 : decide ((rd l1 x7_2) < (l0.length : Int)) = true := decide_eq_true c18
              clear c18
              by_cases c19 : (rd l0 (rd l1 (ji11))) > (rd l0 (rd l1 x7_2))
              ·rw [if_pos c19] at H
               have c19b0 : decide ((rd l0 (rd l1 x7_2)) < (rd l0 (rd l1 (ji11)))) = true := decide_eq_true c19
               clear c19
               obtain rfl := Option.some.inj H
               have p114 : 0 ≤ ((ji11) : Int) := of_decide_eq_true (by first | (with_reducible assumption) | assumption)
               have q114 : (ji11) < (l1.length : Int) := of_decide_eq_true (by first | (with_reducible assumption) | assumption)
               obtain ⟨ad114, e114, hx114_0⟩ := Kd.at_int HR1.out (ji11) p114 q114
               cases e114
               replace hx114_0 := (HB.out.cell (World.block_lt_of_cell? w _ hx114_0)).trans hx114_0
               replace p114 := eq_true p114
               replace q114 := eq_true q114
               have p115 : 0 ≤ (x7_2 : Int) := of_decide_eq_true (by first | (with_reducible assumption) | assumption)
               have q115 : x7_2 < (l1.length : Int) := of_decide_eq_true (by first | (with_reducible assumption) | assumption)
               obtain ⟨ad115, e115, hx115_0⟩ := Kd.at_int HR1.out x7_2 p115 q115
               obtain rfl : ad114 = ad115 := (by injection e115)
               replace hx115_0 := (HB.out.cell (World.block_lt_of_cell? w _ hx115_0)).trans hx115_0
               replace p115 := eq_true p115
               replace q115 := eq_true q115
               have p116 : 0 ≤ ((rd l1 (ji11)) : Int) := of_decide_eq_true (by first | (with_reducible assumption) | assumption)
               have q116 : (rd l1 (ji11)) < (l0.length : Int) := of_decide_eq_true (by first | (with_reducible assumption) | assumption)
               obtain ⟨ad116, e116, hx116_0⟩ := Kd.at_int HR0.out (rd l1 (ji11)) p116 q116
               cases e116
               replace hx116_0 := (HB.out.cell (World.block_lt_of_cell? w _ hx116_0)).trans hx116_0
               replace p116 := eq_true p116
               replace q116 := eq_true q116
               have p117 : 0 ≤ ((rd l1 x7_2) : Int) := of_decide_eq_true (by first | (with_reducible assumption) | assumption)
               have q117 : (rd l1 x7_2) < (l0.length : Int) := of_decide_eq_true (by first | (with_reducible assumption) | assumption)
               obtain ⟨ad117, e117, hx117_0⟩ := Kd.at_int HR0.out (rd l1 x7_2) p117 q117
               obtain rfl : ad116 = ad117 := (by injection e117)
               replace hx117_0 := (HB.out.cell (World.block_lt_of_cell? w _ hx117_0)).trans hx117_0
               replace p117 := eq_true p117
               replace q117 := eq_true q117
               go_wp2
               repeat (go_quiet (fail); try go_wp2)
               go_ret
               exact ⟨by first | rfl | (simp [errW_none, errW_some] <;> rfl) | (simp only [← hji11]; first | rfl | (simp [errW_none, errW_some] <;> rfl)) | (simp [*, errW_none, errW_some] <;> rfl), by repeat (first | (with_reducible first | exact HB.out | apply below_alloc | apply pw_below_drewN | apply below_drew1) | exact HB.out)⟩
              ·rw [if_neg c19] at H
               have c19b0 : decide ((rd l0 (rd l1 x7_2)) < (rd l0 (rd l1 (ji11)))) = false := decide_eq_false c19
               clear c19
               by_cases c20 : (rd l0 (rd l1 (ji11))) = (rd l0 (rd l1 x7_2))
               ·rw [if_pos c20] at H
                have c20b0 : ((rd l0 (rd l1 (ji11))) == (rd l0 (rd l1 x7_2))) = true := beq_iff_eq.mpr c20
                have c20b1 : ((rd l0 (rd l1 (ji11))) != (rd l0 (rd l1 x7_2))) = false := bne_eq_false_iff_eq.mpr c20
                clear c20
                obtain ⟨ji21, hji21⟩ : ∃ j_ : Int, (wrap64 ((rd l1 (ji11)) + 1)) = j_ := ⟨_, rfl⟩
                replace H : (if 0 ≤ (ji21) then (if (ji21) < (t109.length : Int) then (if 0 ≤ (wrap64 ((rd l1 x7_2) + 1)) then (if (wrap64 ((rd l1 x7_2) + 1)) < (t109.length : Int) then (if (rd t109 (ji21)) > (rd t109 (wrap64 ((rd l1 x7_2) + 1))) then (some false) else (suffix_Right.l0 k2 l0 l1 t109 (wrap64 (x7_2 + 1)))) else (none)) else (none)) else (none)) else (none)) = some r := by first | (rw [hji21] at H; exact H) | (simp only [hji21] at H ⊢; exact H)
                have hji21w : (IntKind.i64.wrap ((rd l1 (ji11)) + 1)) = ji21 := (i64_w _).trans hji21
                by_cases c22 : 0 ≤ (ji21)
                ·rw [if_pos c22] at H
                 have c22b0 : decide (0 ≤ (ji21)) = true := decide_eq_true c22
                 clear c22
                 by_cases c23 : (ji21) < (t109.length : Int)
                 ·rw [if_pos c23] at H
                  have c23b0 : decide ((ji21) < (t109.length : Int)) = true := decide_eq_true c23
                  clear c23
                  obtain ⟨ji24, hji24⟩ : ∃ j_ : Int, (wrap64 ((rd l1 x7_2) + 1)) = j_ := ⟨_, rfl⟩
                  replace H : (if 0 ≤ (ji24) then (if (ji24) < (t109.length : Int) then (if (rd t109 (ji21)) > (rd t109 (ji24)) then (some false) else (suffix_Right.l0 k2 l0 l1 t109 (wrap64 (x7_2 + 1)))) else (none)) else (none)) = some r := by first | (rw [hji24] at H; exact H) | (simp only [hji24] at H ⊢; exact H)
                  have hji24w : (IntKind.i64.wrap ((rd l1 x7_2) + 1)) = ji24 := (i64_w _).trans hji24
                  by_cases c25 : 0 ≤ (ji24)
                  ·rw [if_pos c25] at H
                   have c25b0 : decide (0 ≤ (ji24)) = true := decide_eq_true c25
                   clear c25
                   by_cases c26 : (ji24) < (t109.length : Int)
                   ·rw [if_pos c26] at H
                    have c26b0 : decide ((ji24) < (t109.length : Int)) = true := decide_eq_true c26
                    clear c26
                    by_cases c27 : (rd t109 (ji21)) > (rd t109 (ji24))
                    ·rw [if_pos c27] at H
                     have c27b0 : decide ((rd t109 (ji24)) < (rd t109 (ji21))) = true := decide_eq_true c27
                     clear c27
                     obtain rfl := Option.some.inj H
                     have p114 : 0 ≤ ((ji11) : Int) := of_decide_eq_true (by first | (with_reducible assumption) | assumption)
                     have q114 : (ji11) < (l1.length : Int) := of_decide_eq_true (by first | (with_reducible assumption) | assumption)
                     obtain ⟨ad114, e114, hx114_0⟩ := Kd.at_int HR1.out (ji11) p114 q114
                     cases e114
                     replace hx114_0 := (HB.out.cell (World.block_lt_of_cell? w _ hx114_0)).trans hx114_0
                     replace p114 := eq_true p114
                     replace q114 := eq_true q114
                     have p115 : 0 ≤ (x7_2 : Int) := of_decide_eq_true (by first | (with_reducible assumption) | assumption)
                     have q115 : x7_2 < (l1.length : Int) := of_decide_eq_true (by first | (with_reducible assumption) | assumption)
                     obtain ⟨ad115, e115, hx115_0⟩ := Kd.at_int HR1.out x7_2 p115 q115
                     obtain rfl : ad114 = ad115 := (by injection e115)
                     replace hx115_0 := (HB.out.cell (World.block_lt_of_cell? w _ hx115_0)).trans hx115_0
                     replace p115 := eq_true p115
                     replace q115 := eq_true q115
                     have p116 : 0 ≤ ((rd l1 (ji11)) : Int) := of_decide_eq_true (by first | (with_reducible assumption) | assumption)
                     have q116 : (rd l1 (ji11)) < (l0.length : Int) := of_decide_eq_true (by first | (with_reducible assumption) | assumption)
                     obtain ⟨ad116, e116, hx116_0⟩ := Kd.at_int HR0.out (rd l1 (ji11)) p116 q116
                     cases e116
                     replace hx116_0 := (HB.out.cell (World.block_lt_of_cell? w _ hx116_0)).trans hx116_0
                     replace p116 := eq_true p116
                     replace q116 := eq_true q116
                     have p117 : 0 ≤ ((rd l1 x7_2) : Int) := of_decide_eq_true (by first | (with_reducible assumption) | assumption)
                     have q117 : (rd l1 x7_2) < (l0.length : Int) := of_decide_eq_true (by first | (with_reducible assumption) | assumption)
                     obtain ⟨ad117, e117, hx117_0⟩ := Kd.at_int HR0.out (rd l1 x7_2) p117 q117
                     obtain rfl : ad116 = ad117 := (by injection e117)
                     replace hx117_0 := (HB.out.cell (World.block_lt_of_cell? w _ hx117_0)).trans hx117_0
                     replace p117 := eq_true p117
                     replace q117 := eq_true q117
                     have p118 : 0 ≤ ((rd l1 (ji11)) : Int) := of_decide_eq_true (by first | (with_reducible assumption) | assumption)
                     have q118 : (rd l1 (ji11)) < (l0.length : Int) := of_decide_eq_true (by first | (with_reducible assumption) | assumption)
                     obtain ⟨ad118, e118, hx118_0⟩ := Kd.at_int HR0.out (rd l1 (ji11)) p118 q118
                     obtain rfl : ad116 = ad118 := (by injection e118)
                     replace hx118_0 := (HB.out.cell (World.block_lt_of_cell? w _ hx118_0)).trans hx118_0
                     replace p118 := eq_true p118
                     replace q118 := eq_true q118
                     have p119 : 0 ≤ ((rd l1 x7_2) : Int) := of_decide_eq_true (by first | (with_reducible assumption) | assumption)
                     have q119 : (rd l1 x7_2) < (l0.length : Int) := of_decide_eq_true (by first | (with_reducible assumption) | assumption)
                     obtain ⟨ad119, e119, hx119_0⟩ := Kd.at_int HR0.out (rd l1 x7_2) p119 q119
                     obtain rfl : ad116 = ad119 := (by injection e119)
                     replace hx119_0 := (HB.out.cell (World.block_lt_of_cell? w _ hx119_0)).trans hx119_0
                     replace p119 := eq_true p119
                     replace q119 := eq_true q119
                     obtain ⟨Ao28, co28, eo28⟩ := Kd.R_slice HO_5.out
                     subst eo28
                     have p120 : 0 ≤ ((ji21) : Int) := of_decide_eq_true (by first | (with_reducible assumption) | assumption)
                     have q120 : (ji21) < (t109.length : Int) := of_decide_eq_true (by first | (with_reducible assumption) | assumption)
                     obtain ⟨ad120, e120, hx120_0⟩ := Kd.at_int (Kd.R_reads' HO_5.out).2.2 (ji21) p120 q120
                     cases e120
                     replace p120 := eq_true p120
                     replace q120 := eq_true q120
                     have p121 : 0 ≤ ((ji24) : Int) := of_decide_eq_true (by first | (with_reducible assumption) | assumption)
                     have q121 : (ji24) < (t109.length : Int) := of_decide_eq_true (by first | (with_reducible assumption) | assumption)
                     obtain ⟨ad121, e121, hx121_0⟩ := Kd.at_int (Kd.R_reads' HO_5.out).2.2 (ji24) p121 q121
                     obtain rfl : ad120 = ad121 := (by injection e121)
                     replace p121 := eq_true p121
                     replace q121 := eq_true q121
                     go_wp2
                     repeat (go_quiet (fail); try go_wp2)
                     go_ret
                     exact ⟨by first | rfl | (simp [errW_none, errW_some] <;> rfl) | (simp only [← hji11, ← hji21, ← hji24]; first | rfl | (simp [errW_none, errW_some] <;> rfl)) | (simp [*, errW_none, errW_some] <;> rfl), by repeat (first | (with_reducible first | exact HB.out | apply below_alloc | apply pw_below_drewN | apply below_drew1) | exact HB.out)⟩
                    ·rw [if_neg c27] at H
                     have c27b0 : decide ((rd t109 (ji24)) < (rd t109 (ji21))) = false := decide_eq_false c27
                     clear c27
                     have H' := Aside0.mk H
                     clear H
                     have p114 : 0 ≤ ((ji11) : Int) := of_decide_eq_true (by first | (with_reducible assumption) | assumption)
                     have q114 : (ji11) < (l1.length : Int) := of_decide_eq_true (by first | (with_reducible assumption) | assumption)
                     obtain ⟨ad114, e114, hx114_0⟩ := Kd.at_int HR1.out (ji11) p114 q114
                     cases e114
                     replace hx114_0 := (HB.out.cell (World.block_lt_of_cell? w _ hx114_0)).trans hx114_0
                     replace p114 := eq_true p114
                     replace q114 := eq_true q114
                     have p115 : 0 ≤ (x7_2 : Int) := of_decide_eq_true (by first | (with_reducible assumption) | assumption)
                     have q115 : x7_2 < (l1.length : Int) := of_decide_eq_true (by first | (with_reducible assumption) | assumption)
                     obtain ⟨ad115, e115, hx115_0⟩ := Kd.at_int HR1.out x7_2 p115 q115
                     obtain rfl : ad114 = ad115 := (by injection e115)
                     replace hx115_0 := (HB.out.cell (World.block_lt_of_cell? w _ hx115_0)).trans hx115_0
                     replace p115 := eq_true p115
                     replace q115 := eq_true q115
                     have p116 : 0 ≤ ((rd l1 (ji11)) : Int) := of_decide_eq_true (by first | (with_reducible assumption) | assumption)
                     have q116 : (rd l1 (ji11)) < (l0.length : Int) := of_decide_eq_true (by first | (with_reducible assumption) | assumption)
                     obtain ⟨ad116, e116, hx116_0⟩ := Kd.at_int HR0.out (rd l1 (ji11)) p116 q116
                     cases e116
                     replace hx116_0 := (HB.out.cell (World.block_lt_of_cell? w _ hx116_0)).trans hx116_0
                     replace p116 := eq_true p116
                     replace q116 := eq_true q116
                     have p117 : 0 ≤ ((rd l1 x7_2) : Int) := of_decide_eq_true (by first | (with_reducible assumption) | assumption)
                     have q117 : (rd l1 x7_2) < (l0.length : Int) := of_decide_eq_true (by first | (with_reducible assumption) | assumption)
                     obtain ⟨ad117, e117, hx117_0⟩ := Kd.at_int HR0.out (rd l1 x7_2) p117 q117
                     obtain rfl : ad116 = ad117 := (by injection e117)
                     replace hx117_0 := (HB.out.cell (World.block_lt_of_cell? w _ hx117_0)).trans hx117_0
                     replace p117 := eq_true p117
                     replace q117 := eq_true q117
                     have p118 : 0 ≤ ((rd l1 (ji11)) : Int) := of_decide_eq_true (by first | (with_reducible assumption) | assumption)
                     have q118 : (rd l1 (ji11)) < (l0.length : Int) := of_decide_eq_true (by first | (with_reducible assumption) | assumption)
                     obtain ⟨ad118, e118, hx118_0⟩ := Kd.at_int HR0.out (rd l1 (ji11)) p118 q118
                     obtain rfl : ad116 = ad118 := (by injection e118)
                     replace hx118_0 := (HB.out.cell (World.block_lt_of_cell? w _ hx118_0)).trans hx118_0
                     replace p118 := eq_true p118
                     replace q118 := eq_true q118
                     have p119 : 0 ≤ ((rd l1 x7_2) : Int) := of_decide_eq_true (by first | (with_reducible assumption) | assumption)
                     have q119 : (rd l1 x7_2) < (l0.length : Int) := of_decide_eq_true (by first | (with_reducible assumption) | assumption)
                     obtain ⟨ad119, e119, hx119_0⟩ := Kd.at_int HR0.out (rd l1 x7_2) p119 q119
                     obtain rfl : ad116 = ad119 := (by injection e119)
                     replace hx119_0 := (HB.out.cell (World.block_lt_of_cell? w _ hx119_0)).trans hx119_0
                     replace p119 := eq_true p119
                     replace q119 := eq_true q119
                     obtain ⟨Ao29, co29, eo29⟩ := Kd.R_slice HO_5.out
                     subst eo29
                     have p120 : 0 ≤ ((ji21) : Int) := of_decide_eq_true (by first | (with_reducible assumption) | assumption)
                     have q120 : (ji21) < (t109.length : Int) := of_decide_eq_true (by first | (with_reducible assumption) | assumption)
                     obtain ⟨ad120, e120, hx120_0⟩ := Kd.at_int (Kd.R_reads' HO_5.out).2.2 (ji21) p120 q120
                     cases e120
                     replace p120 := eq_true p120
                     replace q120 := eq_true q120
                     have p121 : 0 ≤ ((ji24) : Int) := of_decide_eq_true (by first | (with_reducible assumption) | assumption)
                     have q121 : (ji24) < (t109.length : Int) := of_decide_eq_true (by first | (with_reducible assumption) | assumption)
                     obtain ⟨ad121, e121, hx121_0⟩ := Kd.at_int (Kd.R_reads' HO_5.out).2.2 (ji24) p121 q121
                     obtain rfl : ad120 = ad121 := (by injection e121)
                     replace p121 := eq_true p121
                     replace q121 := eq_true q121
                     go_wp2
                     repeat (go_quiet (fail); try go_wp2)
                     go_roundg k2
                     case measure => have := HJ3.out; have := HK2.out; omega
                     case rel => exact ⟨(wrap64 (x7_2 + 1)), (by first | rfl | (simp; done) | (simp [*]; done)), H', ⟨by have := HJ3.out; have := HK2.out; omega⟩, ⟨by (with_reducible repeat (first | apply Kd.R_alloc | apply Kd.R_drewN | apply Kd.R_drew)); exact HO_5.out⟩, ⟨by repeat (first | (with_reducible first | exact HB.out | apply below_alloc | apply pw_below_drewN | apply below_drew1) | exact HB.out)⟩⟩
                   ·rw [if_neg c26] at H
                    exact absurd H (by simp)
                  ·rw [if_neg c25] at H
                   exact absurd H (by simp)
                 ·rw [if_neg c23] at H
                  exact absurd H (by simp)
                ·rw [if_neg c22] at H
                 exact absurd H (by simp)
               ·rw [if_neg c20] at H
                have c20b0 : ((rd l0 (rd l1 (ji11))) == (rd l0 (rd l1 x7_2))) = false := beq_eq_false_iff_ne.mpr c20
                have c20b1 : ((rd l0 (rd l1 (ji11))) != (rd l0 (rd l1 x7_2))) = true := bne_iff_ne.mpr c20
                have H' := Aside0.mk H
                clear H
                have p114 : 0 ≤ ((ji11) : Int) := of_decide_eq_true (by first | (with_reducible assumption) | assumption)
                have q114 : (ji11) < (l1.length : Int) := of_decide_eq_true (by first | (with_reducible assumption) | assumption)
                obtain ⟨ad114, e114, hx114_0⟩ := Kd.at_int HR1.out (ji11) p114 q114
                cases e114
                replace hx114_0 := (HB.out.cell (World.block_lt_of_cell? w _ hx114_0)).trans hx114_0
                replace p114 := eq_true p114
                replace q114 := eq_true q114
                have p115 : 0 ≤ (x7_2 : Int) := of_decide_eq_true (by first | (with_reducible assumption) | assumption)
                have q115 : x7_2 < (l1.length : Int) := of_decide_eq_true (by first | (with_reducible assumption) | assumption)
                obtain ⟨ad115, e115, hx115_0⟩ := Kd.at_int HR1.out x7_2 p115 q115
                obtain rfl : ad114 = ad115 := (by injection e115)
                replace hx115_0 := (HB.out.cell (World.block_lt_of_cell? w _ hx115_0)).trans hx115_0
                replace p115 := eq_true p115
                replace q115 := eq_true q115
                have p116 : 0 ≤ ((rd l1 (ji11)) : Int) := of_decide_eq_true (by first | (with_reducible assumption) | assumption)
                have q116 : (rd l1 (ji11)) < (l0.length : Int) := of_decide_eq_true (by first | (with_reducible assumption) | assumption)
                obtain ⟨ad116, e116, hx116_0⟩ := Kd.at_int HR0.out (rd l1 (ji11)) p116 q116
                cases e116
                replace hx116_0 := (HB.out.cell (World.block_lt_of_cell? w _ hx116_0)).trans hx116_0
                replace p116 := eq_true p116
                replace q116 := eq_true q116
                have p117 : 0 ≤ ((rd l1 x7_2) : Int) := of_decide_eq_true (by first | (with_reducible assumption) | assumption)
                have q117 : (rd l1 x7_2) < (l0.length : Int) := of_decide_eq_true (by first | (with_reducible assumption) | assumption)
                obtain ⟨ad117, e117, hx117_0⟩ := Kd.at_int HR0.out (rd l1 x7_2) p117 q117
                obtain rfl : ad116 = ad117 := (by injection e117)
                replace hx117_0 := (HB.out.cell (World.block_lt_of_cell? w _ hx117_0)).trans hx117_0
                replace p117 := eq_true p117
                replace q117 := eq_true q117
                have p118 : 0 ≤ ((rd l1 (ji11)) : Int) := of_decide_eq_true (by first | (with_reducible assumption) | assumption)
                have q118 : (rd l1 (ji11)) < (l0.length : Int) := of_decide_eq_true (by first | (with_reducible assumption) | assumption)
                obtain ⟨ad118, e118, hx118_0⟩ := Kd.at_int HR0.out (rd l1 (ji11)) p118 q118
                obtain rfl : ad116 = ad118 := (by injection e118)
                replace hx118_0 := (HB.out.cell (World.block_lt_of_cell? w _ hx118_0)).trans hx118_0
                replace p118 := eq_true p118
                replace q118 := eq_true q118
                have p119 : 0 ≤ ((rd l1 x7_2) : Int) := of_decide_eq_true (by first | (with_reducible assumption) | assumption)
                have q119 : (rd l1 x7_2) < (l0.length : Int) := of_decide_eq_true (by first | (with_reducible assumption) | assumption)
                obtain ⟨ad119, e119, hx119_0⟩ := Kd.at_int HR0.out (rd l1 x7_2) p119 q119
                obtain rfl : ad116 = ad119 := (by injection e119)
                replace hx119_0 := (HB.out.cell (World.block_lt_of_cell? w _ hx119_0)).trans hx119_0
                replace p119 := eq_true p119
                replace q119 := eq_true q119
                go_wp2
                repeat (go_quiet (fail); try go_wp2)
                go_roundg k2
                case measure => have := HJ3.out; have := HK2.out; omega
                case rel => exact ⟨(wrap64 (x7_2 + 1)), (by first | rfl | (simp; done) | (simp [*]; done)), H', ⟨by have := HJ3.out; have := HK2.out; omega⟩, ⟨by (with_reducible repeat (first | apply Kd.R_alloc | apply Kd.R_drewN | apply Kd.R_drew)); exact HO_5.out⟩, ⟨by repeat (first | (with_reducible first | exact HB.out | apply below_alloc | apply pw_below_drewN | apply below_drew1) | exact HB.out)⟩⟩
             ·rw [if_neg c18] at H
              exact absurd H (by simp)
            ·rw [if_neg c17] at H
             exact absurd H (by simp)
           ·rw [if_neg c16] at H
            exact absurd H (by simp)
          ·rw [if_neg c15] at H
           exact absurd H (by simp)
         ·rw [if_neg c14] at H
          exact absurd H (by simp)
        ·rw [if_neg c13] at H
         exact absurd H (by simp)
       ·rw [if_neg c12] at H
        exact absurd H (by simp)
      ·rw [if_neg c10] at H
       have c10b0 : decide (x7_2 < (l1.length : Int)) = false := decide_eq_false c10
       clear c10
       obtain rfl := Option.some.inj H
       go_wp2
       repeat (go_quiet (fail); try go_wp2)
       go_ret
       exact ⟨by first | rfl | (simp [errW_none, errW_some] <;> rfl) | (simp [*, errW_none, errW_some] <;> rfl), by repeat (first | (with_reducible first | exact HB.out | apply below_alloc | apply pw_below_drewN | apply below_drew1) | exact HB.out)⟩

/-! ### suffix_kinds: function 76 (by hand) -/
def suffix_kinds.f (l0 : List Int) : Option (List Bool) := if inKs .i64 l0 = true ∧ l0.length ≤ 65536 then some (kdL l0) else none
theorem suffix_kinds.calls (A0 : Option Addr) (c0 : Nat) (l0 : List Int) (r : List Bool) (w : World) (hr0 : Kd.C (Kd.int .i64) w A0 l0.length l0) (hc0 : l0.length ≤ c0) (h : suffix_kinds.f l0 = some r) :
  Calls Try.prog 76 #[.slice A0 l0.length c0] w fun e w' => ∃ v0_ : Value, e = .returned (v0_) ∧ Kd.R Kd.bool 4 w' w.heap.size (fun _ => True) v0_ r ∧ Below w.heap.size w w' := by
 unfold suffix_kinds.f at h
 by_cases h1 : inKs .i64 l0 = true ∧ l0.length ≤ 65536
 ·rw [if_pos h1] at h
  obtain rfl := Option.some.inj h
  refine (sufkinds_calls A0 c0 l0 w (rd_of_kdc hr0 hc0 (inKs_of h1.1)) h1.2).mono fun e w' ⟨G, he, hG, hb, hu⟩ => ⟨_, he, kdb_of_blk hb hG (kdL_len l0).symm (by rw [kdL_len]; exact h1.2), hu.out⟩
 ·rw [if_neg h1] at h; cases h


/-! ### suffix_Kinds: function 58 -/
def suffix_Kinds.f (k : Nat) (l0 : List Int) : Option (List Bool × Int) := (suffix_Check.f k l0).bind fun t122 => (if t122 = 0 then ((suffix_kinds.f l0).bind fun t123 => (some (t123, 0))) else (some (([] : List Bool), t122)))
theorem suffix_Kinds.mono : ∀ a0 k, LeO (suffix_Kinds.f k a0) (suffix_Kinds.f (k + 1) a0) := by
 intro a0 k
 unfold suffix_Kinds.f
 repeat' first
   | (with_reducible exact suffix_Check.mono _ _)
   | (with_reducible exact LeO.refl _)
   | (with_reducible exact LeO.none _)
   | (with_reducible refine LeO.ite ?_ ?_)
   | (with_reducible refine LeO.bind ?_ (fun _ => ?_))
   | exact suffix_Check.mono _ _
   | exact LeO.none _
   | refine LeO.ite ?_ ?_
   | refine LeO.bind ?_ (fun _ => ?_)
set_option maxHeartbeats 8000000 in
set_option maxRecDepth 100000 in
theorem suffix_Kinds.calls (k : Nat) (A0 : Option Addr) (c0 : Nat) (l0 : List Int) (r1 : List Bool) (r2 : Int) (w : World) (hr0 : Kd.C (Kd.int .i64) w A0 l0.length l0) (hc0 : l0.length ≤ c0) (h : suffix_Kinds.f k l0 = some (r1, r2)) :
  Calls Try.prog 58 #[.slice A0 l0.length c0] w fun e w' => ∃ v0_ : Value, e = .returned (.tuple #[v0_, .int .i64 r2]) ∧ Kd.R Kd.bool 4 w' w.heap.size (fun _ => True) v0_ r1 ∧ Below w.heap.size w w' := by
 have HR0 := Aside0.mk hr0
 have HC0 := Aside0.mk hc0
 clear hr0 hc0
 have HB := Aside0.mk (Below.refl w.heap.size w)
 have H : ((suffix_Check.f k l0).bind fun t122 => (if t122 = 0 then ((suffix_kinds.f l0).bind fun t123 => (some (t123, 0))) else (some (([] : List Bool), t122)))) = some (r1, r2) := h
 clear h
 replace H := Option.bind_eq_some_iff.mp H
 obtain ⟨t122, A20, H⟩ := H
 replace H : (if t122 = 0 then ((suffix_kinds.f l0).bind fun t123 => (some (t123, 0))) else (some (([] : List Bool), t122))) = some (r1, r2) := H
 have A2 := Aside0.mk A20
 clear A20
 by_cases c3 : t122 = 0
 ·rw [if_pos c3] at H
  have c3b0 : (t122 == 0) = true := beq_iff_eq.mpr c3
  have c3b1 : (t122 != 0) = false := bne_eq_false_iff_eq.mpr c3
  clear c3
  replace H := Option.bind_eq_some_iff.mp H
  obtain ⟨t123, A40, H⟩ := H
  replace H : (some (t123, 0)) = some (r1, r2) := H
  have A4 := Aside0.mk A40
  clear A40
  simp only [Option.some.injEq, Prod.mk.injEq] at H
  obtain ⟨rfl, rfl⟩ := H
  go_enter Try.func58, Try.ntmps58
  go_wp2_with (first | ((with_reducible refine gate_callee (f := 45) rfl ?_); refine goesL_ (some 6) rfl rfl Try.func45 (by kernel_rfl) rfl #[.slice A0 l0.length c0] rfl (by (try simp only [List.map_toArray, List.map_cons, List.map_nil]); first | done | rfl | (simp only [List.length_drop, List.length_take]; rfl)) ?_; (with_reducible refine (suffix_Check.calls k _ _ l0 t122 _ ?side1 ?side2 A2.out).mono ?_); (case side1 => repeat (first | exact HR0.out | (with_reducible refine Kd.C_alloc ?_ _) | (with_reducible refine Kd.C_drewN ?_ _) | (with_reducible refine Kd.C_drew ?_))); (case side2 => exact HC0.out); rintro e w' ⟨rfl, ⟨nd, rfl⟩⟩; refine ⟨_, rfl, ?_⟩) | ((with_reducible refine gate_callee (f := 76) rfl ?_); refine goesL_ (some 11) rfl rfl Try.func76 (by kernel_rfl) rfl #[.slice A0 l0.length c0] rfl (by (try simp only [List.map_toArray, List.map_cons, List.map_nil]); first | done | rfl | (simp only [List.length_drop, List.length_take]; rfl)) ?_; (with_reducible refine (suffix_kinds.calls _ _ l0 t123 _ ?side1 ?side2 A4.out).mono ?_); (case side1 => repeat (first | exact HR0.out | (with_reducible refine Kd.C_alloc ?_ _) | (with_reducible refine Kd.C_drewN ?_ _) | (with_reducible refine Kd.C_drew ?_))); (case side2 => exact HC0.out); rintro e w5 ⟨v124, rfl, ho0, hb⟩; refine ⟨_, rfl, ?_⟩; have n0_ := Aside0.mk (Kd.R_lower ho0 (below_size (by repeat (first | (with_reducible first | exact HB.out | apply below_alloc | apply pw_below_drewN | apply below_drew1) | exact HB.out)))); have n1_ := Aside0.mk (below_step (by repeat (first | (with_reducible first | exact HB.out | apply below_alloc | apply pw_below_drewN | apply below_drew1) | exact HB.out)) hb); clear HB; have HO125 := n0_; have HB := n1_; clear n0_ n1_; (try clear hb); (try clear hb2); (try clear hk); (try clear hi); (try clear ho0)))
  go_ret2
  exact ⟨_, by first | rfl | (simp [errW_none, errW_some] <;> rfl) | (simp [*, errW_none, errW_some] <;> rfl), by (with_reducible repeat (first | apply Kd.R_alloc | apply Kd.R_drewN | apply Kd.R_drew)); exact HO125.out, by repeat (first | (with_reducible first | exact HB.out | apply below_alloc | apply pw_below_drewN | apply below_drew1) | exact HB.out)⟩
 ·rw [if_neg c3] at H
  have c3b0 : (t122 == 0) = false := beq_eq_false_iff_ne.mpr c3
  have c3b1 : (t122 != 0) = true := bne_iff_ne.mpr c3
  simp only [Option.some.injEq, Prod.mk.injEq] at H
  obtain ⟨rfl, rfl⟩ := H
  go_enter Try.func58, Try.ntmps58
  go_wp2_with (first | ((with_reducible refine gate_callee (f := 45) rfl ?_); refine goesL_ (some 6) rfl rfl Try.func45 (by kernel_rfl) rfl #[.slice A0 l0.length c0] rfl (by (try simp only [List.map_toArray, List.map_cons, List.map_nil]); first | done | rfl | (simp only [List.length_drop, List.length_take]; rfl)) ?_; (with_reducible refine (suffix_Check.calls k _ _ l0 t122 _ ?side1 ?side2 A2.out).mono ?_); (case side1 => repeat (first | exact HR0.out | (with_reducible refine Kd.C_alloc ?_ _) | (with_reducible refine Kd.C_drewN ?_ _) | (with_reducible refine Kd.C_drew ?_))); (case side2 => exact HC0.out); rintro e w' ⟨rfl, ⟨nd, rfl⟩⟩; refine ⟨_, rfl, ?_⟩))
  go_ret2
  exact ⟨_, by first | rfl | (simp [errW_none, errW_some] <;> rfl) | (simp [*, errW_none, errW_some] <;> rfl), by first | exact Kd.R_nil _ _ _ _ _ | exact Kd.N_nil _ _ _ _ _ | exact Kd.V_nil _ _ _ _ _ | exact Kd.Q_nil _ _ _ _ _ | exact Kd.S_nil _ _ _ _ _, by repeat (first | (with_reducible first | exact HB.out | apply below_alloc | apply pw_below_drewN | apply below_drew1) | exact HB.out)⟩

/-! ### suffix_Firsts: function 38 -/
def suffix_Firsts.l0 : Nat → List Bool → List Int → Int → Int → Option (List Int × Int)
 | 0, _, _, _, _ => none
 | k + 1, x4, x6, x17, x18 => if x18 < x17 then (if x18 = 0 then (suffix_Firsts.l0 k x4 x6 x17 (wrap64 (x18 + 1))) else (if 0 ≤ x18 then (if x18 < (x4.length : Int) then (if rdOf false x4 x18 = true then (if 0 ≤ (wrap64 (x18 - 1)) then (if (wrap64 (x18 - 1)) < (x4.length : Int) then (if rdOf false x4 (wrap64 (x18 - 1)) = true then (suffix_Firsts.l0 k x4 x6 x17 (wrap64 (x18 + 1))) else (if x6.length < 17592186044416 then (suffix_Firsts.l0 k x4 (x6 ++ [x18]) x17 (wrap64 (x18 + 1))) else (none))) else (none)) else (none)) else (suffix_Firsts.l0 k x4 x6 x17 (wrap64 (x18 + 1)))) else (none)) else (none))) else (some (x6, 0))
def suffix_Firsts.f (k : Nat) (l0 : List Int) : Option (List Int × Int) := (suffix_Kinds.f k l0).bind fun bt126 => (if bt126.2 = 0 then (suffix_Firsts.l0 k bt126.1 ([] : List Int) (bt126.1.length : Int) 0) else (some (([] : List Int), bt126.2)))
theorem suffix_Firsts.mono_l : ∀ k, (∀ y0 y1 y2 y3, LeO (suffix_Firsts.l0 k y0 y1 y2 y3) (suffix_Firsts.l0 (k + 1) y0 y1 y2 y3))
 | 0 => fun _ _ _ _ r h => by simp [suffix_Firsts.l0] at h
 | k + 1 => by
  have ih0 := suffix_Firsts.mono_l k
  ·intro y0 y1 y2 y3
   unfold suffix_Firsts.l0
   repeat' first
   | (with_reducible exact ih0 _ _ _ _)
   | (with_reducible exact suffix_Kinds.mono _ _)
   | (with_reducible exact LeO.refl _)
   | (with_reducible exact LeO.none _)
   | (with_reducible refine LeO.ite ?_ ?_)
   | (with_reducible refine LeO.bind ?_ (fun _ => ?_))
   | exact ih0 _ _ _ _
   | exact suffix_Kinds.mono _ _
   | exact LeO.none _
   | refine LeO.ite ?_ ?_
   | refine LeO.bind ?_ (fun _ => ?_)
theorem suffix_Firsts.mono : ∀ a0 k, LeO (suffix_Firsts.f k a0) (suffix_Firsts.f (k + 1) a0) := by
 intro a0 k
 have ih0 := suffix_Firsts.mono_l k
 unfold suffix_Firsts.f
 repeat' first
   | (with_reducible exact ih0 _ _ _ _)
   | (with_reducible exact suffix_Kinds.mono _ _)
   | (with_reducible exact LeO.refl _)
   | (with_reducible exact LeO.none _)
   | (with_reducible refine LeO.ite ?_ ?_)
   | (with_reducible refine LeO.bind ?_ (fun _ => ?_))
   | exact ih0 _ _ _ _
   | exact suffix_Kinds.mono _ _
   | exact LeO.none _
   | refine LeO.ite ?_ ?_
   | refine LeO.bind ?_ (fun _ => ?_)
set_option maxHeartbeats 8000000 in
set_option maxRecDepth 100000 in
theorem suffix_Firsts.calls (k : Nat) (A0 : Option Addr) (c0 : Nat) (l0 : List Int) (r1 : List Int) (r2 : Int) (w : World) (hr0 : Kd.C (Kd.int .i64) w A0 l0.length l0) (hc0 : l0.length ≤ c0) (h : suffix_Firsts.f k l0 = some (r1, r2)) :
  Calls Try.prog 38 #[.slice A0 l0.length c0] w fun e w' => ∃ v0_ : Value, e = .returned (.tuple #[v0_, .int .i64 r2]) ∧ Kd.R (Kd.int .i64) 3 w' w.heap.size (fun _ => True) v0_ r1 ∧ Below w.heap.size w w' := by
 have HR0 := Aside0.mk hr0
 have HC0 := Aside0.mk hc0
 clear hr0 hc0
 have HB := Aside0.mk (Below.refl w.heap.size w)
 have H : ((suffix_Kinds.f k l0).bind fun bt126 => (if bt126.2 = 0 then (suffix_Firsts.l0 k bt126.1 ([] : List Int) (bt126.1.length : Int) 0) else (some (([] : List Int), bt126.2)))) = some (r1, r2) := h
 clear h
 replace H := Option.bind_eq_some_iff.mp H
 obtain ⟨⟨t126, t127⟩, A20, H⟩ := H
 replace H : (if t127 = 0 then (suffix_Firsts.l0 k t126 ([] : List Int) (t126.length : Int) 0) else (some (([] : List Int), t127))) = some (r1, r2) := H
 have A2 := Aside0.mk A20
 clear A20
 by_cases c3 : t127 = 0
 ·rw [if_pos c3] at H
  have c3b0 : (t127 == 0) = true := beq_iff_eq.mpr c3
  have c3b1 : (t127 != 0) = false := bne_eq_false_iff_eq.mpr c3
  clear c3
  have H' := Aside0.mk H
  clear H
  go_enter Try.func38, Try.ntmps38
  try go_wp2_with (first | ((with_reducible refine gate_callee (f := 58) rfl ?_); refine goesL_ (some 10) rfl rfl Try.func58 (by kernel_rfl) rfl #[.slice A0 l0.length c0] rfl (by (try simp only [List.map_toArray, List.map_cons, List.map_nil]); first | done | rfl | (simp only [List.length_drop, List.length_take]; rfl)) ?_; (with_reducible refine (suffix_Kinds.calls k _ _ l0 t126 t127 _ ?side1 ?side2 A2.out).mono ?_); (case side1 => repeat (first | exact HR0.out | (with_reducible refine Kd.C_alloc ?_ _) | (with_reducible refine Kd.C_drewN ?_ _) | (with_reducible refine Kd.C_drew ?_))); (case side2 => exact HC0.out); rintro e w4 ⟨v128, rfl, ho0, hb⟩; refine ⟨_, rfl, ?_⟩; have n0_ := Aside0.mk (Kd.R_lower ho0 (below_size (by repeat (first | (with_reducible first | exact HB.out | apply below_alloc | apply pw_below_drewN | apply below_drew1) | exact HB.out)))); have n1_ := Aside0.mk (below_step (by repeat (first | (with_reducible first | exact HB.out | apply below_alloc | apply pw_below_drewN | apply below_drew1) | exact HB.out)) hb); clear HB; have HO129 := n0_; have HB := n1_; clear n0_ n1_; (try clear hb); (try clear hb2); (try clear hk); (try clear hi); (try clear ho0); obtain ⟨Ao5, co5, eo5⟩ := Kd.R_slice HO129.out; subst eo5))
  repeat ((go_step3); try go_wp2_with (first | ((with_reducible refine gate_callee (f := 58) rfl ?_); refine goesL_ (some 10) rfl rfl Try.func58 (by kernel_rfl) rfl #[.slice A0 l0.length c0] rfl (by (try simp only [List.map_toArray, List.map_cons, List.map_nil]); first | done | rfl | (simp only [List.length_drop, List.length_take]; rfl)) ?_; (with_reducible refine (suffix_Kinds.calls k _ _ l0 t126 t127 _ ?side1 ?side2 A2.out).mono ?_); (case side1 => repeat (first | exact HR0.out | (with_reducible refine Kd.C_alloc ?_ _) | (with_reducible refine Kd.C_drewN ?_ _) | (with_reducible refine Kd.C_drew ?_))); (case side2 => exact HC0.out); rintro e w4 ⟨v128, rfl, ho0, hb⟩; refine ⟨_, rfl, ?_⟩; have n0_ := Aside0.mk (Kd.R_lower ho0 (below_size (by repeat (first | (with_reducible first | exact HB.out | apply below_alloc | apply pw_below_drewN | apply below_drew1) | exact HB.out)))); have n1_ := Aside0.mk (below_step (by repeat (first | (with_reducible first | exact HB.out | apply below_alloc | apply pw_below_drewN | apply below_drew1) | exact HB.out)) hb); clear HB; have HO129 := n0_; have HB := n1_; clear n0_ n1_; (try clear hb); (try clear hb2); (try clear hk); (try clear hi); (try clear ho0); obtain ⟨Ao5, co5, eo5⟩ := Kd.R_slice HO129.out; subst eo5)))
  go_loopg [6, 18] k (fun kq v6 v18 w' => ∃ (x6_1 : List Int) (x18_1 : Int), v18 = .int .i64 x18_1 ∧ Aside0 (suffix_Firsts.l0 kq t126 x6_1 (t126.length : Int) x18_1 = some (r1, r2)) ∧ Aside0 (kq ≤ k) ∧ Aside0 (Kd.R Kd.bool 4 w' w.heap.size (fun _ => True) (.slice Ao5 t126.length co5) t126) ∧ Aside0 (Kd.R (Kd.int .i64) 3 w' w.heap.size (fun _ => True) v6 x6_1) ∧ Aside0 (Below w.heap.size w w'))
  case atStart => exact ⟨(([] : List Int)), (0), (by first | rfl | (simp; done) | (simp [*]; done)), H', ⟨Nat.le_refl _⟩, ⟨by (with_reducible repeat (first | apply Kd.R_alloc | apply Kd.R_drewN | apply Kd.R_drew)); exact HO129.out⟩, ⟨by first | exact Kd.R_nil _ _ _ _ _ | exact Kd.N_nil _ _ _ _ _ | exact Kd.V_nil _ _ _ _ _ | exact Kd.Q_nil _ _ _ _ _ | exact Kd.S_nil _ _ _ _ _⟩, ⟨by repeat (first | (with_reducible first | exact HB.out | apply below_alloc | apply pw_below_drewN | apply below_drew1) | exact HB.out)⟩⟩
  case round =>
   clear H'
   try clear p2
   try clear c3
   try clear c3b0
   try clear c3b1
   try clear p3
   try clear c5
   obtain ⟨x6_1, x18_1, rfl, HA, HK1, HO_4, HO_6, HB⟩ := hrel
   cases gk with
   | zero => exact absurd HA.out (by simp [suffix_Firsts.l0])
   | succ k1 =>
    have H := HA.out
    clear HA
    simp only [suffix_Firsts.l0] at H
    by_cases c6 : x18_1 < (t126.length : Int)
    ·rw [if_pos c6] at H
     have c6b0 : decide (x18_1 < (t126.length : Int)) = true := decide_eq_true c6
     clear c6
     by_cases c7 : x18_1 = 0
     ·rw [if_pos c7] at H
      have c7b0 : (x18_1 == 0) = true := beq_iff_eq.mpr c7
      have c7b1 : (x18_1 != 0) = false := bne_eq_false_iff_eq.mpr c7
      clear c7
      have H' := Aside0.mk H
      clear H
      try go_wp2_with (fail)
      repeat ((go_step3); try go_wp2_with (fail))
      go_roundg k1
      case measure => have := HK1.out; omega
      case rel => exact ⟨(x6_1), (wrap64 (x18_1 + 1)), (by first | rfl | (simp; done) | (simp [*]; done)), H', ⟨by have := HK1.out; omega⟩, ⟨by (with_reducible repeat (first | apply Kd.R_alloc | apply Kd.R_drewN | apply Kd.R_drew)); exact HO_4.out⟩, ⟨by (with_reducible repeat (first | apply Kd.R_alloc | apply Kd.R_drewN | apply Kd.R_drew)); exact HO_6.out⟩, ⟨by repeat (first | (with_reducible first | exact HB.out | apply below_alloc | apply pw_below_drewN | apply below_drew1) | exact HB.out)⟩⟩
     ·rw [if_neg c7] at H
      have c7b0 : (x18_1 == 0) = false := beq_eq_false_iff_ne.mpr c7
      have c7b1 : (x18_1 != 0) = true := bne_iff_ne.mpr c7
      by_cases c8 : 0 ≤ x18_1
      ·rw [if_pos c8] at H
       have c8b0 : decide (0 ≤ x18_1) = true := decide_eq_true c8
       clear c8
       by_cases c9 : x18_1 < (t126.length : Int)
       ·rw [if_pos c9] at H
        have c9b0 : decide (x18_1 < (t126.length : Int)) = true := decide_eq_true c9
        clear c9
        obtain ⟨bq10, hbq10⟩ : ∃ b_ : Bool, b_ = (rdOf false t126 x18_1) := ⟨_, rfl⟩
        replace H : (if bq10 = true then (if 0 ≤ (wrap64 (x18_1 - 1)) then (if (wrap64 (x18_1 - 1)) < (t126.length : Int) then (if rdOf false t126 (wrap64 (x18_1 - 1)) = true then (suffix_Firsts.l0 k1 t126 x6_1 (t126.length : Int) (wrap64 (x18_1 + 1))) else (if x6_1.length < 17592186044416 then (suffix_Firsts.l0 k1 t126 (x6_1 ++ [x18_1]) (t126.length : Int) (wrap64 (x18_1 + 1))) else (none))) else (none)) else (none)) else (suffix_Firsts.l0 k1 t126 x6_1 (t126.length : Int) (wrap64 (x18_1 + 1)))) = some (r1, r2) := by rw [← hbq10] at H; exact H
        have Nbq10 := Aside0.mk hbq10
        clear hbq10
        by_cases c11 : bq10 = true
        ·subst c11
         have H1 : (if 0 ≤ (wrap64 (x18_1 - 1)) then (if (wrap64 (x18_1 - 1)) < (t126.length : Int) then (if rdOf false t126 (wrap64 (x18_1 - 1)) = true then (suffix_Firsts.l0 k1 t126 x6_1 (t126.length : Int) (wrap64 (x18_1 + 1))) else (if x6_1.length < 17592186044416 then (suffix_Firsts.l0 k1 t126 (x6_1 ++ [x18_1]) (t126.length : Int) (wrap64 (x18_1 + 1))) else (none))) else (none)) else (none)) = some (r1, r2) := by rw [if_pos rfl] at H; exact H
         clear H
         have H := H1
         clear H1
         obtain ⟨ji12, hji12⟩ : ∃ j_ : Int, (wrap64 (x18_1 - 1)) = j_ := ⟨_, rfl⟩
         replace H : (if 0 ≤ (ji12) then (if (ji12) < (t126.length : Int) then (if rdOf false t126 (ji12) = true then (suffix_Firsts.l0 k1 t126 x6_1 (t126.length : Int) (wrap64 (x18_1 + 1))) else (if x6_1.length < 17592186044416 then (suffix_Firsts.l0 k1 t126 (x6_1 ++ [x18_1]) (t126.length : Int) (wrap64 (x18_1 + 1))) else (none))) else (none)) else (none)) = some (r1, r2) := by first | (rw [hji12] at H; exact H) | (simp only [hji12] at H ⊢; exact H)
         have hji12w : (IntKind.i64.wrap (x18_1 - 1)) = ji12 := (i64_w _).trans hji12
         by_cases c13 : 0 ≤ (ji12)
         ·rw [if_pos c13] at H
          have c13b0 : decide (0 ≤ (ji12)) = true := decide_eq_true c13
          clear c13
          by_cases c14 : (ji12) < (t126.length : Int)
          ·rw [if_pos c14] at H
           have c14b0 : decide ((ji12) < (t126.length : Int)) = true := decide_eq_true c14
           clear c14
           obtain ⟨bq15, hbq15⟩ : ∃ b_ : Bool, b_ = (rdOf false t126 (ji12)) := ⟨_, rfl⟩
           replace H : (if bq15 = true then (suffix_Firsts.l0 k1 t126 x6_1 (t126.length : Int) (wrap64 (x18_1 + 1))) else (if x6_1.length < 17592186044416 then (suffix_Firsts.l0 k1 t126 (x6_1 ++ [x18_1]) (t126.length : Int) (wrap64 (x18_1 + 1))) else (none))) = some (r1, r2) := by rw [← hbq15] at H; exact H
           have Nbq15 := Aside0.mk hbq15
           clear hbq15
           by_cases c16 : bq15 = true
           ·subst c16
            have H1 : (suffix_Firsts.l0 k1 t126 x6_1 (t126.length : Int) (wrap64 (x18_1 + 1))) = some (r1, r2) := by rw [if_pos rfl] at H; exact H
            clear H
            have H := H1
            clear H1
            have H' := Aside0.mk H
            clear H
            have p130 : 0 ≤ (x18_1 : Int) := of_decide_eq_true (by first | (with_reducible assumption) | assumption)
            have q130 : x18_1 < (t126.length : Int) := of_decide_eq_true (by first | (with_reducible assumption) | assumption)
            obtain ⟨ad130, e130, hx130_0⟩ := Kd.at_bool (Kd.R_reads' HO_4.out).2.2 x18_1 p130 q130
            (try rw [← Nbq10.out] at hx130_0)
            (try rw [← Nbq15.out] at hx130_0)
            cases e130
            replace p130 := eq_true p130
            replace q130 := eq_true q130
            have p131 : 0 ≤ ((ji12) : Int) := of_decide_eq_true (by first | (with_reducible assumption) | assumption)
            have q131 : (ji12) < (t126.length : Int) := of_decide_eq_true (by first | (with_reducible assumption) | assumption)
            obtain ⟨ad131, e131, hx131_0⟩ := Kd.at_bool (Kd.R_reads' HO_4.out).2.2 (ji12) p131 q131
            (try rw [← Nbq10.out] at hx131_0)
            (try rw [← Nbq15.out] at hx131_0)
            obtain rfl : ad130 = ad131 := (by injection e131)
            replace p131 := eq_true p131
            replace q131 := eq_true q131
            try go_wp2_with (fail)
            repeat ((go_step3); try go_wp2_with (fail))
            go_roundg k1
            case measure => have := HK1.out; omega
            case rel => exact ⟨(x6_1), (wrap64 (x18_1 + 1)), (by first | rfl | (simp; done) | (simp [*]; done)), H', ⟨by have := HK1.out; omega⟩, ⟨by (with_reducible repeat (first | apply Kd.R_alloc | apply Kd.R_drewN | apply Kd.R_drew)); exact HO_4.out⟩, ⟨by (with_reducible repeat (first | apply Kd.R_alloc | apply Kd.R_drewN | apply Kd.R_drew)); exact HO_6.out⟩, ⟨by repeat (first | (with_reducible first | exact HB.out | apply below_alloc | apply pw_below_drewN | apply below_drew1) | exact HB.out)⟩⟩
           ·replace c16 := Bool.eq_false_iff.mpr c16
            subst c16
            have H1 : (if x6_1.length < 17592186044416 then (suffix_Firsts.l0 k1 t126 (x6_1 ++ [x18_1]) (t126.length : Int) (wrap64 (x18_1 + 1))) else (none)) = some (r1, r2) := by rw [if_neg (show ¬ (false = true) by decide)] at H; exact H
            clear H
            have H := H1
            clear H1
            by_cases c17 : x6_1.length < 17592186044416
            ·rw [if_pos c17] at H
             have LMc17 := Aside0.mk c17
             clear c17
             obtain ⟨y132, hy132⟩ : ∃ y_ : List Int, y_ = (x6_1 ++ [x18_1]) := ⟨_, rfl⟩
             replace H : (suffix_Firsts.l0 k1 t126 y132 (t126.length : Int) (wrap64 (x18_1 + 1))) = some (r1, r2) := by first | (rw [hy132]; with_reducible exact H) | (have H2_ := (Option.bind_some _ _).symm.trans H; rw [hy132]; with_reducible exact H2_) | (have H2_ := (Option.bind_some _ _).symm.trans H; with_reducible exact H2_) | with_reducible exact H | (rw [hy132]; exact H) | exact H
             have Ny132 := Aside0.mk hy132
             clear hy132
             have H' := Aside0.mk H
             clear H
             have p130 : 0 ≤ (x18_1 : Int) := of_decide_eq_true (by first | (with_reducible assumption) | assumption)
             have q130 : x18_1 < (t126.length : Int) := of_decide_eq_true (by first | (with_reducible assumption) | assumption)
             obtain ⟨ad130, e130, hx130_0⟩ := Kd.at_bool (Kd.R_reads' HO_4.out).2.2 x18_1 p130 q130
             (try rw [← Nbq10.out] at hx130_0)
             (try rw [← Nbq15.out] at hx130_0)
             cases e130
             replace p130 := eq_true p130
             replace q130 := eq_true q130
             have p131 : 0 ≤ ((ji12) : Int) := of_decide_eq_true (by first | (with_reducible assumption) | assumption)
             have q131 : (ji12) < (t126.length : Int) := of_decide_eq_true (by first | (with_reducible assumption) | assumption)
             obtain ⟨ad131, e131, hx131_0⟩ := Kd.at_bool (Kd.R_reads' HO_4.out).2.2 (ji12) p131 q131
             (try rw [← Nbq10.out] at hx131_0)
             (try rw [← Nbq15.out] at hx131_0)
             obtain rfl : ad130 = ad131 := (by injection e131)
             replace p131 := eq_true p131
             replace q131 := eq_true q131
             try go_wp2_with (first | ((with_reducible refine gate_builtin (b := .append) (xs := #[.tmp 37, .tmp 39]) rfl ?_); at_builtin; refine Kd.R_append (Kd.int .i64) (w0 := w) w.heap.size rfl (.tmp 37) (.tmp 39) 22 3 (.int .i64 0) 8 rfl Try.underlying22 info3 rfl (by decide) (by omega) u6 x6_1 x18_1 [.int .i64 x18_1] (fun _ => True) (fun _ => False) rfl rfl ?aP (fun _ hk => hk.elim) ?aF ?aO ?aB ?aS ?aL ?_; (case aP => exact rfl); (case aB => exact (by repeat (first | (with_reducible first | exact HB.out | apply below_alloc | apply pw_below_drewN | apply below_drew1) | exact HB.out))); (case aF => exact (fun _ _ => trivial)); (case aO => exact (by (with_reducible repeat (first | apply Kd.R_alloc | apply Kd.R_drewN | apply Kd.R_drew)); exact HO_6.out)); (case aS => exact (below_size (by repeat (first | (with_reducible first | exact HB.out | apply below_alloc | apply pw_below_drewN | apply below_drew1) | exact HB.out)))); (case aL => have := LMc17.out; omega); intro v133 w18 ho hb hg hat; rw [← Ny132.out] at ho; have n0_ := Aside0.mk (Kd.R_over' (by (with_reducible repeat (first | apply Kd.R_alloc | apply Kd.R_drewN | apply Kd.R_drew)); exact HO_4.out) (Kd.R_typed (by (with_reducible repeat (first | apply Kd.R_alloc | apply Kd.R_drewN | apply Kd.R_drew)); exact HO_6.out)) (by decide) hg); have n1_ := Aside0.mk (hb); have n2_ := Aside0.mk (ho); clear HO_4; clear HB; clear HO_6; have HO_4 := n0_; have HB := n1_; have HO134 := n2_; clear n0_ n1_ n2_; clear ho hb hg hat))
             repeat ((go_step3); try go_wp2_with (first | ((with_reducible refine gate_builtin (b := .append) (xs := #[.tmp 37, .tmp 39]) rfl ?_); at_builtin; refine Kd.R_append (Kd.int .i64) (w0 := w) w.heap.size rfl (.tmp 37) (.tmp 39) 22 3 (.int .i64 0) 8 rfl Try.underlying22 info3 rfl (by decide) (by omega) u6 x6_1 x18_1 [.int .i64 x18_1] (fun _ => True) (fun _ => False) rfl rfl ?aP (fun _ hk => hk.elim) ?aF ?aO ?aB ?aS ?aL ?_; (case aP => exact rfl); (case aB => exact (by repeat (first | (with_reducible first | exact HB.out | apply below_alloc | apply pw_below_drewN | apply below_drew1) | exact HB.out))); (case aF => exact (fun _ _ => trivial)); (case aO => exact (by (with_reducible repeat (first | apply Kd.R_alloc | apply Kd.R_drewN | apply Kd.R_drew)); exact HO_6.out)); (case aS => exact (below_size (by repeat (first | (with_reducible first | exact HB.out | apply below_alloc | apply pw_below_drewN | apply below_drew1) | exact HB.out)))); (case aL => have := LMc17.out; omega); intro v133 w18 ho hb hg hat; rw [← Ny132.out] at ho; have n0_ := Aside0.mk (Kd.R_over' (by (with_reducible repeat (first | apply Kd.R_alloc | apply Kd.R_drewN | apply Kd.R_drew)); exact HO_4.out) (Kd.R_typed (by (with_reducible repeat (first | apply Kd.R_alloc | apply Kd.R_drewN | apply Kd.R_drew)); exact HO_6.out)) (by decide) hg); have n1_ := Aside0.mk (hb); have n2_ := Aside0.mk (ho); clear HO_4; clear HB; clear HO_6; have HO_4 := n0_; have HB := n1_; have HO134 := n2_; clear n0_ n1_ n2_; clear ho hb hg hat)))
             go_roundg k1
             case measure => have := HK1.out; omega
             case rel => exact ⟨(y132), (wrap64 (x18_1 + 1)), (by first | rfl | (simp; done) | (simp [*]; done)), H', ⟨by have := HK1.out; omega⟩, ⟨by (with_reducible repeat (first | apply Kd.R_alloc | apply Kd.R_drewN | apply Kd.R_drew)); exact HO_4.out⟩, ⟨by (with_reducible repeat (first | apply Kd.R_alloc | apply Kd.R_drewN | apply Kd.R_drew)); exact HO134.out⟩, ⟨by repeat (first | (with_reducible first | exact HB.out | apply below_alloc | apply pw_below_drewN | apply below_drew1) | exact HB.out)⟩⟩
            ·rw [if_neg c17] at H
             exact absurd H (by simp)
          ·rw [if_neg c14] at H
           exact absurd H (by simp)
         ·rw [if_neg c13] at H
          exact absurd H (by simp)
        ·replace c11 := Bool.eq_false_iff.mpr c11
         subst c11
         have H1 : (suffix_Firsts.l0 k1 t126 x6_1 (t126.length : Int) (wrap64 (x18_1 + 1))) = some (r1, r2) := by rw [if_neg (show ¬ (false = true) by decide)] at H; exact H
         clear H
         have H := H1
         clear H1
         have H' := Aside0.mk H
         clear H
         have p130 : 0 ≤ (x18_1 : Int) := of_decide_eq_true (by first | (with_reducible assumption) | assumption)
         have q130 : x18_1 < (t126.length : Int) := of_decide_eq_true (by first | (with_reducible assumption) | assumption)
         obtain ⟨ad130, e130, hx130_0⟩ := Kd.at_bool (Kd.R_reads' HO_4.out).2.2 x18_1 p130 q130
         (try rw [← Nbq10.out] at hx130_0)
         cases e130
         replace p130 := eq_true p130
         replace q130 := eq_true q130
         try go_wp2_with (fail)
         repeat ((go_step3); try go_wp2_with (fail))
         go_roundg k1
         case measure => have := HK1.out; omega
         case rel => exact ⟨(x6_1), (wrap64 (x18_1 + 1)), (by first | rfl | (simp; done) | (simp [*]; done)), H', ⟨by have := HK1.out; omega⟩, ⟨by (with_reducible repeat (first | apply Kd.R_alloc | apply Kd.R_drewN | apply Kd.R_drew)); exact HO_4.out⟩, ⟨by (with_reducible repeat (first | apply Kd.R_alloc | apply Kd.R_drewN | apply Kd.R_drew)); exact HO_6.out⟩, ⟨by repeat (first | (with_reducible first | exact HB.out | apply below_alloc | apply pw_below_drewN | apply below_drew1) | exact HB.out)⟩⟩
       ·rw [if_neg c9] at H
        exact absurd H (by simp)
      ·rw [if_neg c8] at H
       exact absurd H (by simp)
    ·rw [if_neg c6] at H
     have c6b0 : decide (x18_1 < (t126.length : Int)) = false := decide_eq_false c6
     clear c6
     simp only [Option.some.injEq, Prod.mk.injEq] at H
     obtain ⟨rfl, rfl⟩ := H
     try go_wp2_with (fail)
     repeat ((go_step3); try go_wp2_with (fail))
     (try rw [Exit.noGoto_ret])
     go_ret2
     exact ⟨_, by first | rfl | (simp [errW_none, errW_some] <;> rfl) | (simp [*, errW_none, errW_some] <;> rfl), by (with_reducible repeat (first | apply Kd.R_alloc | apply Kd.R_drewN | apply Kd.R_drew)); exact HO_6.out, by repeat (first | (with_reducible first | exact HB.out | apply below_alloc | apply pw_below_drewN | apply below_drew1) | exact HB.out)⟩
 ·rw [if_neg c3] at H
  have c3b0 : (t127 == 0) = false := beq_eq_false_iff_ne.mpr c3
  have c3b1 : (t127 != 0) = true := bne_iff_ne.mpr c3
  simp only [Option.some.injEq, Prod.mk.injEq] at H
  obtain ⟨rfl, rfl⟩ := H
  go_enter Try.func38, Try.ntmps38
  try go_wp2_with (first | ((with_reducible refine gate_callee (f := 58) rfl ?_); refine goesL_ (some 10) rfl rfl Try.func58 (by kernel_rfl) rfl #[.slice A0 l0.length c0] rfl (by (try simp only [List.map_toArray, List.map_cons, List.map_nil]); first | done | rfl | (simp only [List.length_drop, List.length_take]; rfl)) ?_; (with_reducible refine (suffix_Kinds.calls k _ _ l0 t126 t127 _ ?side1 ?side2 A2.out).mono ?_); (case side1 => repeat (first | exact HR0.out | (with_reducible refine Kd.C_alloc ?_ _) | (with_reducible refine Kd.C_drewN ?_ _) | (with_reducible refine Kd.C_drew ?_))); (case side2 => exact HC0.out); rintro e w19 ⟨v128, rfl, ho0, hb⟩; refine ⟨_, rfl, ?_⟩; have n0_ := Aside0.mk (Kd.R_lower ho0 (below_size (by repeat (first | (with_reducible first | exact HB.out | apply below_alloc | apply pw_below_drewN | apply below_drew1) | exact HB.out)))); have n1_ := Aside0.mk (below_step (by repeat (first | (with_reducible first | exact HB.out | apply below_alloc | apply pw_below_drewN | apply below_drew1) | exact HB.out)) hb); clear HB; have HO129 := n0_; have HB := n1_; clear n0_ n1_; (try clear hb); (try clear hb2); (try clear hk); (try clear hi); (try clear ho0)))
  repeat ((go_step3); try go_wp2_with (first | ((with_reducible refine gate_callee (f := 58) rfl ?_); refine goesL_ (some 10) rfl rfl Try.func58 (by kernel_rfl) rfl #[.slice A0 l0.length c0] rfl (by (try simp only [List.map_toArray, List.map_cons, List.map_nil]); first | done | rfl | (simp only [List.length_drop, List.length_take]; rfl)) ?_; (with_reducible refine (suffix_Kinds.calls k _ _ l0 t126 t127 _ ?side1 ?side2 A2.out).mono ?_); (case side1 => repeat (first | exact HR0.out | (with_reducible refine Kd.C_alloc ?_ _) | (with_reducible refine Kd.C_drewN ?_ _) | (with_reducible refine Kd.C_drew ?_))); (case side2 => exact HC0.out); rintro e w19 ⟨v128, rfl, ho0, hb⟩; refine ⟨_, rfl, ?_⟩; have n0_ := Aside0.mk (Kd.R_lower ho0 (below_size (by repeat (first | (with_reducible first | exact HB.out | apply below_alloc | apply pw_below_drewN | apply below_drew1) | exact HB.out)))); have n1_ := Aside0.mk (below_step (by repeat (first | (with_reducible first | exact HB.out | apply below_alloc | apply pw_below_drewN | apply below_drew1) | exact HB.out)) hb); clear HB; have HO129 := n0_; have HB := n1_; clear n0_ n1_; (try clear hb); (try clear hb2); (try clear hk); (try clear hi); (try clear ho0))))
  (try rw [Exit.noGoto_ret])
  go_ret2
  exact ⟨_, by first | rfl | (simp [errW_none, errW_some] <;> rfl) | (simp [*, errW_none, errW_some] <;> rfl), by first | exact Kd.R_nil _ _ _ _ _ | exact Kd.N_nil _ _ _ _ _ | exact Kd.V_nil _ _ _ _ _ | exact Kd.Q_nil _ _ _ _ _ | exact Kd.S_nil _ _ _ _ _, by repeat (first | (with_reducible first | exact HB.out | apply below_alloc | apply pw_below_drewN | apply below_drew1) | exact HB.out)⟩

/-! ### induce_induced: function 42 (by hand) -/
def induce_induced.f (k : Nat) (l0 l1 : List Int) : Option (List Int) := if l0.length = 1 then some [0] else (suffix_Kinds.f k l0).bind fun q => if IndPre l0 l1 q.1 q.2 then some (Ind.ind l0 (l1.map Int.toNat)) else none
theorem induce_induced.mono : ∀ a0 a1 k, LeO (induce_induced.f k a0 a1) (induce_induced.f (k + 1) a0 a1) := by
 intro a0 a1 k r h
 unfold induce_induced.f at h ⊢
 by_cases h1 : a0.length = 1
 ·rw [if_pos h1] at h ⊢; exact h
 ·rw [if_neg h1] at h ⊢
  obtain ⟨q, hq, h⟩ := Option.bind_eq_some_iff.1 h
  rw [suffix_Kinds.mono _ _ _ hq, Option.bind_some]
  exact h
theorem induce_induced.own (k : Nat) (A0 : Option Addr) (c0 : Nat) (l0 : List Int) (A1 : Option Addr) (c1 : Nat) (l1 : List Int) (r : List Int) (w : World) (hr0 : Kd.C (Kd.int .i64) w A0 l0.length l0) (hc0 : l0.length ≤ c0) (hr1 : Kd.C (Kd.int .i64) w A1 l1.length l1) (hc1 : l1.length ≤ c1) (h : induce_induced.f k l0 l1 = some r) :
  Calls Try.prog 42 #[.slice A0 l0.length c0, .slice A1 l1.length c1] w (Ret1 w r) := by
 unfold induce_induced.f at h
 by_cases h1 : l0.length = 1
 ·rw [if_pos h1] at h
  cases h
  exact induced_one A0 A1 c0 c1 l0 l1 w h1
 ·rw [if_neg h1] at h
  obtain ⟨⟨ks, e2⟩, hq, h⟩ := Option.bind_eq_some_iff.1 h
  by_cases hp : IndPre l0 l1 ks e2
  ·rw [if_pos hp] at h
   cases h
   have hr0' := rd_of_kdc hr0 hc0 hp.codes.wf
   have hr1' := rd_of_kdc hr1 hc1 hp.wf1
   refine induced_own A0 A1 c0 c1 l0 l1 w ks e2 hr0' hr1' h1 hp fun w' hu => Lib.hid ?_
   refine (suffix_Kinds.calls k A0 c0 l0 ks e2 w' (kd_of_rd (hr0'.up hu)) hc0 hq).mono fun en w'' hh => ?_
   obtain ⟨v, he, hv, hb⟩ := hh
   exact kdPost_of he hv hb hp
  ·rw [if_neg hp] at h; cases h
theorem induce_induced.calls (k : Nat) (A0 : Option Addr) (c0 : Nat) (l0 : List Int) (A1 : Option Addr) (c1 : Nat) (l1 : List Int) (r : List Int) (w : World) (hr0 : Kd.C (Kd.int .i64) w A0 l0.length l0) (hc0 : l0.length ≤ c0) (hr1 : Kd.C (Kd.int .i64) w A1 l1.length l1) (hc1 : l1.length ≤ c1) (h : induce_induced.f k l0 l1 = some r) :
  Calls Try.prog 42 #[.slice A0 l0.length c0, .slice A1 l1.length c1] w fun e w' => ∃ v0_ : Value, e = .returned (v0_) ∧ Kd.R (Kd.int .i64) 3 w' w.heap.size (fun _ => True) v0_ r ∧ Below w.heap.size w w' :=
 (induce_induced.own k A0 c0 l0 A1 c1 l1 r w hr0 hc0 hr1 hc1 h).mono fun _ _ hp => by
  obtain ⟨v, he, hv, hu⟩ := hp.out
  exact ⟨v, he, kd_of_own hv fun _ _ => trivial, hu.out⟩


end Go.Proofs.Ytmmacpicbonhhaa.PSai
