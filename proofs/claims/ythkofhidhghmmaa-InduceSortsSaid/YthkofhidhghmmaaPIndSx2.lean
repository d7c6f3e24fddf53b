-- Written by a program of this session (wip/tools/pp.sh, on the pattern of the kit's print): not typed by hand.
import Derived.Test.YthkofhidhghmmaaPIndSx0
import Derived.Test.YthkofhidhghmmaaPIndSx1
namespace Go.Proofs.Ythkofhidhghmmaa.PIndS
set_option maxRecDepth 100000
open Go.RowKit Go.Proofs.YthkofhidhghmmaaW.PrintWords Go.Proofs.YthkofhidhghmmaaW.PrintLast Go.Proofs.YthkofhidhghmmaaW.PrintMore
attribute [local go_sem] max2_int min2_int max_two min_two max_three min_three max_four min_four   -- for this text's walks alone
set_option linter.unusedVariables false
set_option linter.unusedSimpArgs false

/-! ### incipitref15_Sort: function 26 -/
mutual
def incipitref15_Sort.l0 : Nat → List Int → List Int → Int → Option (List Int)
 | 0, _, _, _ => none
 | k + 1, x0, x3, x4 => if x4 < (x0.length : Int) then (incipitref15_Sort.l1 k x0 x3 x4 0) else (some x3)
def incipitref15_Sort.l1 : Nat → List Int → List Int → Int → Int → Option (List Int)
 | 0, _, _, _, _ => none
 | k + 1, x0, x3, x4, x5 => if x5 < (x3.length : Int) then (if 0 ≤ x5 then ((incipitref15_Less.f k x0 (rd x3 x5) x4).bind fun t134 => (if t134 = true then (incipitref15_Sort.l1 k x0 x3 x4 (wrap64 (x5 + 1))) else ((some (([] : List Int) : List Int)).bind fun y135 => (if x5 ≤ (x3.length : Int) then ((some (x3.take (x5 : Int).toNat : List Int)).bind fun y138 => (if y135.length + y138.length < 17592186044416 then ((some (y135 ++ y138 : List Int)).bind fun y142 => (if y142.length < 17592186044416 then ((some (y142 ++ [x4] : List Int)).bind fun y145 => ((some (x3.drop (x5 : Int).toNat : List Int)).bind fun y148 => (if y145.length + y148.length < 17592186044416 then (incipitref15_Sort.l0 k x0 (y145 ++ y148) (wrap64 (x4 + 1))) else (none)))) else (none))) else (none))) else (none))))) else (none)) else ((some (([] : List Int) : List Int)).bind fun y155 => (if 0 ≤ x5 then (if x5 ≤ (x3.length : Int) then ((some (x3.take (x5 : Int).toNat : List Int)).bind fun y158 => (if y155.length + y158.length < 17592186044416 then ((some (y155 ++ y158 : List Int)).bind fun y162 => (if y162.length < 17592186044416 then ((some (y162 ++ [x4] : List Int)).bind fun y165 => ((some (x3.drop (x5 : Int).toNat : List Int)).bind fun y168 => (if y165.length + y168.length < 17592186044416 then (incipitref15_Sort.l0 k x0 (y165 ++ y168) (wrap64 (x4 + 1))) else (none)))) else (none))) else (none))) else (none)) else (none)))
end
def incipitref15_Sort.f (k : Nat) (l0 : List Int) : Option (List Int) := incipitref15_Sort.l0 k l0 ([] : List Int) 0
theorem incipitref15_Sort.mono_l : ∀ k, (∀ y0 y1 y2, LeO (incipitref15_Sort.l0 k y0 y1 y2) (incipitref15_Sort.l0 (k + 1) y0 y1 y2)) ∧ (∀ y0 y1 y2 y3, LeO (incipitref15_Sort.l1 k y0 y1 y2 y3) (incipitref15_Sort.l1 (k + 1) y0 y1 y2 y3))
 | 0 => ⟨fun _ _ _ r h => by simp [incipitref15_Sort.l0] at h, fun _ _ _ _ r h => by simp [incipitref15_Sort.l1] at h⟩
 | k + 1 => by
  obtain ⟨ih0, ih1⟩ := incipitref15_Sort.mono_l k
  refine ⟨?_, ?_⟩
  ·intro y0 y1 y2
   unfold incipitref15_Sort.l0
   repeat' first
   | (with_reducible exact ih0 _ _ _)
   | (with_reducible exact ih1 _ _ _ _)
   | (with_reducible exact incipitref15_Less.mono _ _ _ _)
   | (with_reducible exact LeO.refl _)
   | (with_reducible exact LeO.none _)
   | (with_reducible refine LeO.ite ?_ ?_)
   | (with_reducible refine LeO.bind ?_ (fun _ => ?_))
   | exact ih0 _ _ _
   | exact ih1 _ _ _ _
   | exact incipitref15_Less.mono _ _ _ _
   | exact LeO.none _
   | refine LeO.ite ?_ ?_
   | refine LeO.bind ?_ (fun _ => ?_)
  ·intro y0 y1 y2 y3
   unfold incipitref15_Sort.l1
   repeat' first
   | (with_reducible exact ih0 _ _ _)
   | (with_reducible exact ih1 _ _ _ _)
   | (with_reducible exact incipitref15_Less.mono _ _ _ _)
   | (with_reducible exact LeO.refl _)
   | (with_reducible exact LeO.none _)
   | (with_reducible refine LeO.ite ?_ ?_)
   | (with_reducible refine LeO.bind ?_ (fun _ => ?_))
   | exact ih0 _ _ _
   | exact ih1 _ _ _ _
   | exact incipitref15_Less.mono _ _ _ _
   | exact LeO.none _
   | refine LeO.ite ?_ ?_
   | refine LeO.bind ?_ (fun _ => ?_)
theorem incipitref15_Sort.mono : ∀ a0 k, LeO (incipitref15_Sort.f k a0) (incipitref15_Sort.f (k + 1) a0) := by
 intro a0 k
 obtain ⟨ih0, ih1⟩ := incipitref15_Sort.mono_l k
 unfold incipitref15_Sort.f
 repeat' first
   | (with_reducible exact ih0 _ _ _)
   | (with_reducible exact ih1 _ _ _ _)
   | (with_reducible exact incipitref15_Less.mono _ _ _ _)
   | (with_reducible exact LeO.refl _)
   | (with_reducible exact LeO.none _)
   | (with_reducible refine LeO.ite ?_ ?_)
   | (with_reducible refine LeO.bind ?_ (fun _ => ?_))
   | exact ih0 _ _ _
   | exact ih1 _ _ _ _
   | exact incipitref15_Less.mono _ _ _ _
   | exact LeO.none _
   | refine LeO.ite ?_ ?_
   | refine LeO.bind ?_ (fun _ => ?_)
set_option maxHeartbeats 8000000 in
set_option maxRecDepth 100000 in
theorem incipitref15_Sort.calls (k : Nat) (A0 : Option Addr) (c0 : Nat) (l0 : List Int) (r : List Int) (w : World) (hr0 : Kd.C (Kd.int .i64) w A0 l0.length l0) (hc0 : l0.length ≤ c0) (h : incipitref15_Sort.f k l0 = some r) :
  Calls Try.prog 26 #[.slice A0 l0.length c0] w fun e w' => ∃ v0_ : Value, e = .returned (v0_) ∧ Kd.R (Kd.int .i64) 3 w' w.heap.size (fun _ => True) v0_ r ∧ Below w.heap.size w w' := by
 have HR0 := Aside0.mk hr0
 have HC0 := Aside0.mk hc0
 clear hr0 hc0
 have HB := Aside0.mk (Below.refl w.heap.size w)
 have H : (incipitref15_Sort.l0 k l0 ([] : List Int) 0) = some r := h
 clear h
 have H' := Aside0.mk H
 clear H
 go_enter Try.func26, Try.ntmps26
 go_wp2
 go_loopg [3, 4] k (fun kq v3 v4 w' => ∃ (x3_1 : List Int) (x4_1 : Int), v4 = .int .i64 x4_1 ∧ Aside0 (incipitref15_Sort.l0 kq l0 x3_1 x4_1 = some r) ∧ Aside0 (kq ≤ k) ∧ Aside0 (Kd.R (Kd.int .i64) 3 w' w.heap.size (fun _ => True) v3 x3_1) ∧ Aside0 (Below w.heap.size w w'))
 case atStart => exact ⟨(([] : List Int)), (0), (by first | rfl | (simp; done) | (simp [*]; done)), H', ⟨Nat.le_refl _⟩, ⟨by first | exact Kd.R_nil _ _ _ _ _ | exact Kd.N_nil _ _ _ _ _ | exact Kd.V_nil _ _ _ _ _ | exact Kd.Q_nil _ _ _ _ _ | exact Kd.S_nil _ _ _ _ _⟩, ⟨by repeat (first | (with_reducible first | exact HB.out | apply below_alloc | apply pw_below_drewN | apply below_drew1) | exact HB.out)⟩⟩
 case round =>
  clear H'
  obtain ⟨x3_1, x4_1, rfl, HA, HK1, HO_3, HB⟩ := hrel
  cases gk with
  | zero => exact absurd HA.out (by simp [incipitref15_Sort.l0])
  | succ k1 =>
   have H := HA.out
   clear HA
   simp only [incipitref15_Sort.l0] at H
   by_cases c2 : x4_1 < (l0.length : Int)
   ·rw [if_pos c2] at H
    have c2b0 : decide (x4_1 < (l0.length : Int)) = true := decide_eq_true c2
    clear c2
    have H' := Aside0.mk H
    clear H
    go_wp2
    go_loopg [5] k1 (fun kq v5 w' => ∃ (x5_2 : Int), v5 = .int .i64 x5_2 ∧ Aside0 (incipitref15_Sort.l1 kq l0 x3_1 x4_1 x5_2 = some r) ∧ Aside0 (kq ≤ k1) ∧ Aside0 (Kd.R (Kd.int .i64) 3 w' w.heap.size (fun _ => True) u3 x3_1) ∧ Aside0 (Below w.heap.size w w'))
    case atStart => exact ⟨(0), (by first | rfl | (simp; done) | (simp [*]; done)), H', ⟨Nat.le_refl _⟩, ⟨by (with_reducible repeat (first | apply Kd.R_alloc | apply Kd.R_drewN | apply Kd.R_drew)); exact HO_3.out⟩, ⟨by repeat (first | (with_reducible first | exact HB.out | apply below_alloc | apply pw_below_drewN | apply below_drew1) | exact HB.out)⟩⟩
    case round =>
     clear H'
     try clear c2
     try clear c2b0
     try clear p2
     obtain ⟨x5_2, rfl, HA, HK2, HO_3, HB⟩ := hrel
     cases gk with
     | zero => exact absurd HA.out (by simp [incipitref15_Sort.l1])
     | succ k2 =>
      have H := HA.out
      clear HA
      simp only [incipitref15_Sort.l1] at H
      by_cases c3 : x5_2 < (x3_1.length : Int)
      ·rw [if_pos c3] at H
       have c3b0 : decide (x5_2 < (x3_1.length : Int)) = true := decide_eq_true c3
       clear c3
       by_cases c4 : 0 ≤ x5_2
       ·rw [if_pos c4] at H
        have c4b0 : decide (0 ≤ x5_2) = true := decide_eq_true c4
        clear c4
        replace H := Option.bind_eq_some_iff.mp H
        obtain ⟨t134, A50, H⟩ := H
        replace H : (if t134 = true then (incipitref15_Sort.l1 k2 l0 x3_1 x4_1 (wrap64 (x5_2 + 1))) else ((some (([] : List Int) : List Int)).bind fun y135 => (if x5_2 ≤ (x3_1.length : Int) then ((some (x3_1.take (x5_2 : Int).toNat : List Int)).bind fun y138 => (if y135.length + y138.length < 17592186044416 then ((some (y135 ++ y138 : List Int)).bind fun y142 => (if y142.length < 17592186044416 then ((some (y142 ++ [x4_1] : List Int)).bind fun y145 => ((some (x3_1.drop (x5_2 : Int).toNat : List Int)).bind fun y148 => (if y145.length + y148.length < 17592186044416 then (incipitref15_Sort.l0 k2 l0 (y145 ++ y148) (wrap64 (x4_1 + 1))) else (none)))) else (none))) else (none))) else (none)))) = some r := H
        have A5 := Aside0.mk A50
        clear A50
        by_cases c6 : t134 = true
        ·subst c6
         have H1 : (incipitref15_Sort.l1 k2 l0 x3_1 x4_1 (wrap64 (x5_2 + 1))) = some r := by rw [if_pos rfl] at H; exact H
         clear H
         have H := H1
         clear H1
         have H' := Aside0.mk H
         clear H
         obtain ⟨Ao7, co7, eo7⟩ := Kd.R_slice HO_3.out
         subst eo7
         have p133 : 0 ≤ (x5_2 : Int) := of_decide_eq_true (by first | (with_reducible assumption) | assumption)
         have q133 : x5_2 < (x3_1.length : Int) := of_decide_eq_true (by first | (with_reducible assumption) | assumption)
         obtain ⟨ad133, e133, hx133_0⟩ := Kd.at_int (Kd.R_reads' HO_3.out).2.2 x5_2 p133 q133
         cases e133
         replace p133 := eq_true p133
         replace q133 := eq_true q133
         go_wp2_with (first | (go_at_call 31; (with_reducible refine (incipitref15_Less.calls k2 _ _ l0 (rd x3_1 x5_2) x4_1 true _ ?side1 ?side2 A5.out).mono ?_); (case side1 => repeat (first | exact (Kd.C_below HR0.out HB.out) | (with_reducible refine Kd.C_alloc ?_ _) | (with_reducible refine Kd.C_drewN ?_ _) | (with_reducible refine Kd.C_drew ?_))); (case side2 => exact HC0.out); rintro e w' ⟨rfl, ⟨nd, rfl⟩⟩))
         go_roundg k2
         case measure => have := HK1.out; have := HK2.out; omega
         case rel => exact ⟨(wrap64 (x5_2 + 1)), (by first | rfl | (simp; done) | (simp [*]; done)), H', ⟨by have := HK1.out; have := HK2.out; omega⟩, ⟨by (with_reducible repeat (first | apply Kd.R_alloc | apply Kd.R_drewN | apply Kd.R_drew)); exact HO_3.out⟩, ⟨by repeat (first | (with_reducible first | exact HB.out | apply below_alloc | apply pw_below_drewN | apply below_drew1) | exact HB.out)⟩⟩
        ·replace c6 := Bool.eq_false_iff.mpr c6
         subst c6
         have H1 : ((some (([] : List Int) : List Int)).bind fun y135 => (if x5_2 ≤ (x3_1.length : Int) then ((some (x3_1.take (x5_2 : Int).toNat : List Int)).bind fun y138 => (if y135.length + y138.length < 17592186044416 then ((some (y135 ++ y138 : List Int)).bind fun y142 => (if y142.length < 17592186044416 then ((some (y142 ++ [x4_1] : List Int)).bind fun y145 => ((some (x3_1.drop (x5_2 : Int).toNat : List Int)).bind fun y148 => (if y145.length + y148.length < 17592186044416 then (incipitref15_Sort.l0 k2 l0 (y145 ++ y148) (wrap64 (x4_1 + 1))) else (none)))) else (none))) else (none))) else (none))) = some r := by rw [if_neg (show ¬ (false = true) by decide)] at H; exact H
         clear H
         have H := H1
         clear H1
         obtain ⟨y135, hy135⟩ : ∃ y_ : List Int, y_ = (([] : List Int)) := ⟨_, rfl⟩
         replace H : (if x5_2 ≤ (x3_1.length : Int) then ((some (x3_1.take (x5_2 : Int).toNat : List Int)).bind fun y138 => (if y135.length + y138.length < 17592186044416 then ((some (y135 ++ y138 : List Int)).bind fun y142 => (if y142.length < 17592186044416 then ((some (y142 ++ [x4_1] : List Int)).bind fun y145 => ((some (x3_1.drop (x5_2 : Int).toNat : List Int)).bind fun y148 => (if y145.length + y148.length < 17592186044416 then (incipitref15_Sort.l0 k2 l0 (y145 ++ y148) (wrap64 (x4_1 + 1))) else (none)))) else (none))) else (none))) else (none)) = some r := by first | (rw [hy135]; with_reducible exact H) | (have H2_ := (Option.bind_some _ _).symm.trans H; rw [hy135]; with_reducible exact H2_) | (have H2_ := (Option.bind_some _ _).symm.trans H; with_reducible exact H2_) | with_reducible exact H | (rw [hy135]; exact H) | exact H
         have Ny135 := Aside0.mk hy135
         clear hy135
         have c8b0 := eq_true (of_decide_eq_true (by first | (with_reducible assumption) | assumption) : 0 ≤ x5_2)
         by_cases c9 : x5_2 ≤ (x3_1.length : Int)
         ·rw [if_pos c9] at H
          have c9b0 := eq_true c9
          have c9b1 : decide (x5_2 ≤ (x3_1.length : Int)) = true := decide_eq_true c9
          clear c9
          obtain ⟨y138, hy138⟩ : ∃ y_ : List Int, y_ = (x3_1.take (x5_2 : Int).toNat) := ⟨_, rfl⟩
          replace H : (if y135.length + y138.length < 17592186044416 then ((some (y135 ++ y138 : List Int)).bind fun y142 => (if y142.length < 17592186044416 then ((some (y142 ++ [x4_1] : List Int)).bind fun y145 => ((some (x3_1.drop (x5_2 : Int).toNat : List Int)).bind fun y148 => (if y145.length + y148.length < 17592186044416 then (incipitref15_Sort.l0 k2 l0 (y145 ++ y148) (wrap64 (x4_1 + 1))) else (none)))) else (none))) else (none)) = some r := by first | (rw [hy138]; with_reducible exact H) | (have H2_ := (Option.bind_some _ _).symm.trans H; rw [hy138]; with_reducible exact H2_) | (have H2_ := (Option.bind_some _ _).symm.trans H; with_reducible exact H2_) | with_reducible exact H | (rw [hy138]; exact H) | exact H
          have Ny138 := Aside0.mk hy138
          clear hy138
          by_cases c10 : y135.length + y138.length < 17592186044416
          ·rw [if_pos c10] at H
           have LMc10 := Aside0.mk c10
           clear c10
           obtain ⟨y142, hy142⟩ : ∃ y_ : List Int, y_ = (y135 ++ y138) := ⟨_, rfl⟩
           replace H : (if y142.length < 17592186044416 then ((some (y142 ++ [x4_1] : List Int)).bind fun y145 => ((some (x3_1.drop (x5_2 : Int).toNat : List Int)).bind fun y148 => (if y145.length + y148.length < 17592186044416 then (incipitref15_Sort.l0 k2 l0 (y145 ++ y148) (wrap64 (x4_1 + 1))) else (none)))) else (none)) = some r := by first | (rw [hy142]; with_reducible exact H) | (have H2_ := (Option.bind_some _ _).symm.trans H; rw [hy142]; with_reducible exact H2_) | (have H2_ := (Option.bind_some _ _).symm.trans H; with_reducible exact H2_) | with_reducible exact H | (rw [hy142]; exact H) | exact H
           have Ny142 := Aside0.mk hy142
           clear hy142
           by_cases c11 : y142.length < 17592186044416
           ·rw [if_pos c11] at H
            have LMc11 := Aside0.mk c11
            clear c11
            obtain ⟨y145, hy145⟩ : ∃ y_ : List Int, y_ = (y142 ++ [x4_1]) := ⟨_, rfl⟩
            replace H : ((some (x3_1.drop (x5_2 : Int).toNat : List Int)).bind fun y148 => (if y145.length + y148.length < 17592186044416 then (incipitref15_Sort.l0 k2 l0 (y145 ++ y148) (wrap64 (x4_1 + 1))) else (none))) = some r := by first | (rw [hy145]; with_reducible exact H) | (have H2_ := (Option.bind_some _ _).symm.trans H; rw [hy145]; with_reducible exact H2_) | (have H2_ := (Option.bind_some _ _).symm.trans H; with_reducible exact H2_) | with_reducible exact H | (rw [hy145]; exact H) | exact H
            have Ny145 := Aside0.mk hy145
            clear hy145
            have c12b0 := eq_true (of_decide_eq_true (by first | (with_reducible assumption) | assumption) : 0 ≤ x5_2)
            have c13b0 := eq_true (of_decide_eq_true (by first | (with_reducible assumption) | assumption) : x5_2 ≤ (x3_1.length : Int))
            obtain ⟨y148, hy148⟩ : ∃ y_ : List Int, y_ = (x3_1.drop (x5_2 : Int).toNat) := ⟨_, rfl⟩
            replace H : (if y145.length + y148.length < 17592186044416 then (incipitref15_Sort.l0 k2 l0 (y145 ++ y148) (wrap64 (x4_1 + 1))) else (none)) = some r := by first | (rw [hy148]; with_reducible exact H) | (have H2_ := (Option.bind_some _ _).symm.trans H; rw [hy148]; with_reducible exact H2_) | (have H2_ := (Option.bind_some _ _).symm.trans H; with_reducible exact H2_) | with_reducible exact H | (rw [hy148]; exact H) | exact H
            have Ny148 := Aside0.mk hy148
            clear hy148
            by_cases c14 : y145.length + y148.length < 17592186044416
            ·rw [if_pos c14] at H
             have LMc14 := Aside0.mk c14
             clear c14
             obtain ⟨y152, hy152⟩ : ∃ y_ : List Int, y_ = (y145 ++ y148) := ⟨_, rfl⟩
             replace H : (incipitref15_Sort.l0 k2 l0 y152 (wrap64 (x4_1 + 1))) = some r := by first | (rw [hy152]; with_reducible exact H) | (have H2_ := (Option.bind_some _ _).symm.trans H; rw [hy152]; with_reducible exact H2_) | (have H2_ := (Option.bind_some _ _).symm.trans H; with_reducible exact H2_) | with_reducible exact H | (rw [hy152]; exact H) | exact H
             have Ny152 := Aside0.mk hy152
             clear hy152
             have H' := Aside0.mk H
             clear H
             obtain ⟨Ao15, co15, eo15⟩ := Kd.R_slice HO_3.out
             subst eo15
             have p133 : 0 ≤ (x5_2 : Int) := of_decide_eq_true (by first | (with_reducible assumption) | assumption)
             have q133 : x5_2 < (x3_1.length : Int) := of_decide_eq_true (by first | (with_reducible assumption) | assumption)
             obtain ⟨ad133, e133, hx133_0⟩ := Kd.at_int (Kd.R_reads' HO_3.out).2.2 x5_2 p133 q133
             cases e133
             replace p133 := eq_true p133
             replace q133 := eq_true q133
             go_wp2_with (first | (go_at_call 31; (with_reducible refine (incipitref15_Less.calls k2 _ _ l0 (rd x3_1 x5_2) x4_1 false _ ?side1 ?side2 A5.out).mono ?_); (case side1 => repeat (first | exact (Kd.C_below HR0.out HB.out) | (with_reducible refine Kd.C_alloc ?_ _) | (with_reducible refine Kd.C_drewN ?_ _) | (with_reducible refine Kd.C_drew ?_))); (case side2 => exact HC0.out); rintro e w' ⟨rfl, ⟨nd, rfl⟩⟩) | ((with_reducible refine gate_dst (N := 28) rfl ?_); refine Kd.R_lit (Kd.int .i64) _ 3 ?hg (N := 28) ?hd (xs := ([] : List Int)) (inner := []) (ok := fun _ => True) (okp := fun _ => True) ?hr ?hp (fun _ hk => hk) trivial (Below.refl _ _) (Nat.le_refl _) (by simp) ?_; (case hd => rfl); (case hg => rfl); (case hr => first | (go_simp; done) | (go_simp; rfl)); (case hp => exact (Reps.none _ _)); intro v136 w16 ho17 hb hg_ hnew_; clear hg_ hnew_; (first | rw [← Ny135.out] at ho17 | (simp only [Int.reduceToNat] at ho17; rw [← Ny135.out] at ho17)); have n0_ := Aside0.mk (Kd.R_elder' (by (with_reducible repeat (first | apply Kd.R_alloc | apply Kd.R_drewN | apply Kd.R_drew)); exact HO_3.out) (Kd.R_base ho17) hb); have n1_ := Aside0.mk (Kd.R_lower (Kd.R_new' ho17 (Kd.R_lt (by (with_reducible repeat (first | apply Kd.R_alloc | apply Kd.R_drewN | apply Kd.R_drew)); exact HO_3.out))) (below_size (by repeat (first | (with_reducible first | exact HB.out | apply below_alloc | apply pw_below_drewN | apply below_drew1) | exact HB.out)))); have n2_ := Aside0.mk (below_step (by repeat (first | (with_reducible first | exact HB.out | apply below_alloc | apply pw_below_drewN | apply below_drew1) | exact HB.out)) hb); clear HO_3; clear HB; have HO_3 := n0_; have HO137 := n1_; have HB := n2_; clear n0_ n1_ n2_; clear hb ho17; have q18 : (x5_2 : Int) ≤ ((x3_1.length : Int) : Int) := of_decide_eq_true (by first | (with_reducible assumption) | assumption); obtain ⟨i018, hi018, _, hsz18, _⟩ := info_parts info3; have hroom18 : x3_1.length ≤ co15 := (Kd.R_reads' HO_3.out).2.1; have hC18 : Kd.C (Kd.int .i64) _ (some ad133) x3_1.length x3_1 := (Kd.R_reads' HO_3.out).2.2; have hcut18 := cut_to (P := Try.prog) 22 3 .i64 Try.underlying22 hi018 (some ad133) x3_1.length co15 x5_2 (of_decide_eq_true (by first | (with_reducible assumption) | assumption)) q18 hroom18; have hr18 := Kd.C_take (m := (x5_2 : Int).toNat) hC18 (by omega); have hy18 : y138.length = (x5_2 : Int).toNat := (by rw [Ny138.out, List.length_take]; omega); rw [← Ny138.out] at hr18; rw [← hy18] at hcut18; have HR141 := Aside0.mk hr18; have HC141 := Aside0.mk (show y138.length ≤ co15 from by omega); clear hr18 hC18 hroom18 hi018 hsz18; have KY18 := Aside0.mk hy18; clear hy18; have KL18 := Aside0.mk (show (x5_2 : Int).toNat ≤ x3_1.length from by omega); replace q18 := eq_true q18) | ((with_reducible refine gate_builtin (b := .append) (xs := #[.tmp 28, .tmp 31]) rfl ?_); at_builtin; refine Kd.R_append_rows (Kd.int .i64) (w0 := w) w.heap.size rfl (.tmp 28) (.tmp 31) 22 3 (.int .i64 0) 8 rfl Try.underlying22 info3 rfl (by decide) (by omega) v136 y135 y138 _ _ _ (fun k_ => some k_ ≠ (.slice (some ad133) x3_1.length co15 : Value).ownBlock) (fun _ => False) rfl rfl ?aO ?aR (fun _ _ h => h) (fun _ h => h.elim) ?aF ?aB ?aS ?aL ?_; (case aR => repeat (first | exact (by repeat (first | (with_reducible exact HR141.out) | (with_reducible refine Kd.C_alloc ?_ _) | (with_reducible refine Kd.C_drewN ?_ _) | (with_reducible refine Kd.C_drew ?_) | exact HR141.out)) | (with_reducible refine Kd.C_alloc ?_ _) | (with_reducible refine Kd.C_drewN ?_ _) | (with_reducible refine Kd.C_drew ?_))); (case aB => exact (by repeat (first | (with_reducible first | exact HB.out | apply below_alloc | apply pw_below_drewN | apply below_drew1) | exact HB.out))); (case aF => exact (fun k_ hk => Kd.fresh' (Kd.R_lt (by (with_reducible repeat (first | apply Kd.R_alloc | apply Kd.R_drewN | apply Kd.R_drew)); exact HO_3.out)) k_ hk)); (case aO => exact (by (with_reducible repeat (first | apply Kd.R_alloc | apply Kd.R_drewN | apply Kd.R_drew)); exact Kd.R_mono HO137.out (fun _ hk => hk.2))); (case aS => exact (below_size (by repeat (first | (with_reducible first | exact HB.out | apply below_alloc | apply pw_below_drewN | apply below_drew1) | exact HB.out)))); (case aL => have := LMc10.out; omega); intro v143 w19 ho hb hg hat; rw [← Ny142.out] at ho; have n0_ := Aside0.mk (Kd.R_after (ok := (fun _ => True)) (by (with_reducible repeat (first | apply Kd.R_alloc | apply Kd.R_drewN | apply Kd.R_drew)); exact HO_3.out) hg hat); have n1_ := Aside0.mk (hb); have n2_ := Aside0.mk ((show Kd.C (Kd.int .i64) w19 (some ad133) y138.length y138 from by rw [Ny138.out]; exact Kd.C_take (m := (x5_2 : Int).toNat) ((Kd.R_reads' (Kd.R_after (ok := (fun _ => True)) (by (with_reducible repeat (first | apply Kd.R_alloc | apply Kd.R_drewN | apply Kd.R_drew)); exact HO_3.out) hg hat)).2.2) KL18.out)); have n3_ := Aside0.mk (ho); clear HO_3; clear HB; clear HR141; clear HO137; have HO_3 := n0_; have HB := n1_; have HR141 := n2_; have HO144 := n3_; clear n0_ n1_ n2_ n3_; clear ho hb hg hat) | ((with_reducible refine gate_builtin (b := .append) (xs := #[.tmp 32, .tmp 34]) rfl ?_); at_builtin; refine Kd.R_append (Kd.int .i64) (w0 := w) w.heap.size rfl (.tmp 32) (.tmp 34) 22 3 (.int .i64 0) 8 rfl Try.underlying22 info3 rfl (by decide) (by omega) v143 y142 x4_1 [.int .i64 x4_1] (fun k_ => some k_ ≠ (.slice (some ad133) x3_1.length co15 : Value).ownBlock) (fun _ => False) rfl rfl ?aP (fun _ hk => hk.elim) ?aF ?aO ?aB ?aS ?aL ?_; (case aP => exact rfl); (case aB => exact (by repeat (first | (with_reducible first | exact HB.out | apply below_alloc | apply pw_below_drewN | apply below_drew1) | exact HB.out))); (case aF => exact (fun k_ hk => Kd.fresh' (Kd.R_lt (by (with_reducible repeat (first | apply Kd.R_alloc | apply Kd.R_drewN | apply Kd.R_drew)); exact HO_3.out)) k_ hk)); (case aO => exact (by (with_reducible repeat (first | apply Kd.R_alloc | apply Kd.R_drewN | apply Kd.R_drew)); exact HO144.out)); (case aS => exact (below_size (by repeat (first | (with_reducible first | exact HB.out | apply below_alloc | apply pw_below_drewN | apply below_drew1) | exact HB.out)))); (case aL => have := LMc11.out; omega); intro v146 w20 ho hb hg hat; rw [← Ny145.out] at ho; have n0_ := Aside0.mk (Kd.R_after (ok := (fun _ => True)) (by (with_reducible repeat (first | apply Kd.R_alloc | apply Kd.R_drewN | apply Kd.R_drew)); exact HO_3.out) hg hat); have n1_ := Aside0.mk (hb); have n2_ := Aside0.mk ((show Kd.C (Kd.int .i64) w20 (some ad133) y138.length y138 from by rw [Ny138.out]; exact Kd.C_take (m := (x5_2 : Int).toNat) ((Kd.R_reads' (Kd.R_after (ok := (fun _ => True)) (by (with_reducible repeat (first | apply Kd.R_alloc | apply Kd.R_drewN | apply Kd.R_drew)); exact HO_3.out) hg hat)).2.2) KL18.out)); have n3_ := Aside0.mk (ho); clear HO_3; clear HB; clear HR141; clear HO144; have HO_3 := n0_; have HB := n1_; have HR141 := n2_; have HO147 := n3_; clear n0_ n1_ n2_ n3_; clear ho hb hg hat; have q21 : (x5_2 : Int) ≤ ((x3_1.length : Int) : Int) := of_decide_eq_true (by first | (with_reducible assumption) | assumption); obtain ⟨i021, hi021, _, hsz21, _⟩ := info_parts info3; have hroom21 : x3_1.length ≤ co15 := (Kd.R_reads' HO_3.out).2.1; have hC21 : Kd.C (Kd.int .i64) _ (some ad133) x3_1.length x3_1 := (Kd.R_reads' HO_3.out).2.2; have q021 : (0 : Int) ≤ (x5_2 : Int) := of_decide_eq_true (by first | (with_reducible assumption) | assumption); have hcut21 := cut_from (P := Try.prog) 22 3 .i64 Try.underlying22 hi021 1 hsz21 (some ad133) x3_1.length co15 x5_2 q021 q21; have hr21 := Kd.C_drop (m := (x5_2 : Int).toNat) (c := co15) hC21 (by omega) hroom21; obtain ⟨A21, hA21⟩ : ∃ A1, A1 = (if co15 = (x5_2 : Int).toNat then (some ad133) else ((some ad133) : Option Addr).map (·.add ((x5_2 : Int).toNat * 1))) := ⟨_, rfl⟩; obtain ⟨c21, hc21⟩ : ∃ c1, c1 = co15 - (x5_2 : Int).toNat := ⟨_, rfl⟩; have hy21 : y148.length = x3_1.length - (x5_2 : Int).toNat := (by rw [Ny148.out, List.length_drop] <;> omega); rw [show (x3_1).drop (x5_2 : Int).toNat = y148 from Ny148.out.symm] at hr21; replace hr21 : Kd.C (Kd.int .i64) _ A21 y148.length y148 := (by rw [hA21]; exact hr21); rw [← hy21, ← hA21, ← hc21] at hcut21; have HR151 := Aside0.mk hr21; have HC151 := Aside0.mk (show y148.length ≤ c21 from by rw [hy21, hc21]; exact Nat.sub_le_sub_right hroom21 _); clear hr21 hC21 hroom21 hi021 hsz21 hc21; have KY21 := Aside0.mk hy21; have KA21 := Aside0.mk hA21; clear hy21 hA21; have KL21 := Aside0.mk (show (x5_2 : Int).toNat ≤ x3_1.length from by omega); replace q21 := eq_true q21) | ((with_reducible refine gate_builtin (b := .append) (xs := #[.tmp 36, .tmp 39]) rfl ?_); at_builtin; refine Kd.R_append_rows (Kd.int .i64) (w0 := w) w.heap.size rfl (.tmp 36) (.tmp 39) 22 3 (.int .i64 0) 8 rfl Try.underlying22 info3 rfl (by decide) (by omega) v146 y145 y148 _ _ _ (fun k_ => some k_ ≠ (.slice (some ad133) x3_1.length co15 : Value).ownBlock) (fun _ => False) rfl rfl ?aO ?aR (fun _ _ h => h) (fun _ h => h.elim) ?aF ?aB ?aS ?aL ?_; (case aR => repeat (first | exact (by repeat (first | (with_reducible exact HR151.out) | (with_reducible refine Kd.C_alloc ?_ _) | (with_reducible refine Kd.C_drewN ?_ _) | (with_reducible refine Kd.C_drew ?_) | exact HR151.out)) | (with_reducible refine Kd.C_alloc ?_ _) | (with_reducible refine Kd.C_drewN ?_ _) | (with_reducible refine Kd.C_drew ?_))); (case aB => exact (by repeat (first | (with_reducible first | exact HB.out | apply below_alloc | apply pw_below_drewN | apply below_drew1) | exact HB.out))); (case aF => exact (fun k_ hk => Kd.fresh' (Kd.R_lt (by (with_reducible repeat (first | apply Kd.R_alloc | apply Kd.R_drewN | apply Kd.R_drew)); exact HO_3.out)) k_ hk)); (case aO => exact (by (with_reducible repeat (first | apply Kd.R_alloc | apply Kd.R_drewN | apply Kd.R_drew)); exact HO147.out)); (case aS => exact (below_size (by repeat (first | (with_reducible first | exact HB.out | apply below_alloc | apply pw_below_drewN | apply below_drew1) | exact HB.out)))); (case aL => have := LMc14.out; omega); intro v153 w22 ho hb hg hat; rw [← Ny152.out] at ho; have n0_ := Aside0.mk (Kd.R_after (ok := (fun _ => True)) (by (with_reducible repeat (first | apply Kd.R_alloc | apply Kd.R_drewN | apply Kd.R_drew)); exact HO_3.out) hg hat); have n1_ := Aside0.mk (hb); have n2_ := Aside0.mk ((show Kd.C (Kd.int .i64) w22 (some ad133) y138.length y138 from by rw [Ny138.out]; exact Kd.C_take (m := (x5_2 : Int).toNat) ((Kd.R_reads' (Kd.R_after (ok := (fun _ => True)) (by (with_reducible repeat (first | apply Kd.R_alloc | apply Kd.R_drewN | apply Kd.R_drew)); exact HO_3.out) hg hat)).2.2) KL18.out)); have n3_ := Aside0.mk ((show Kd.C (Kd.int .i64) w22 A21 y148.length y148 from by rw [Ny148.out, KA21.out]; exact Kd.C_drop (m := (x5_2 : Int).toNat) (c := co15) ((Kd.R_reads' (Kd.R_after (ok := (fun _ => True)) (by (with_reducible repeat (first | apply Kd.R_alloc | apply Kd.R_drewN | apply Kd.R_drew)); exact HO_3.out) hg hat)).2.2) KL21.out ((Kd.R_reads' (Kd.R_after (ok := (fun _ => True)) (by (with_reducible repeat (first | apply Kd.R_alloc | apply Kd.R_drewN | apply Kd.R_drew)); exact HO_3.out) hg hat)).2.1))); have n4_ := Aside0.mk (ho); clear HO_3; clear HB; clear HR141; clear HR151; clear HO147; have HO_3 := n0_; have HB := n1_; have HR141 := n2_; have HR151 := n3_; have HO154 := n4_; clear n0_ n1_ n2_ n3_ n4_; clear ho hb hg hat))
             go_roundg k2
             case measure => have := HK1.out; have := HK2.out; omega
             case rel => exact ⟨(y152), (wrap64 (x4_1 + 1)), (by first | rfl | (simp; done) | (simp [*]; done)), H', ⟨by have := HK1.out; have := HK2.out; omega⟩, ⟨by (with_reducible repeat (first | apply Kd.R_alloc | apply Kd.R_drewN | apply Kd.R_drew)); exact Kd.R_mono HO154.out (fun _ hk => trivial)⟩, ⟨by repeat (first | (with_reducible first | exact HB.out | apply below_alloc | apply pw_below_drewN | apply below_drew1) | exact HB.out)⟩⟩
            ·rw [if_neg c14] at H
             exact absurd H (by simp)
           ·rw [if_neg c11] at H
            exact absurd H (by simp)
          ·rw [if_neg c10] at H
           exact absurd H (by simp)
         ·rw [if_neg c9] at H
          exact absurd H (by simp)
       ·rw [if_neg c4] at H
        exact absurd H (by simp)
      ·rw [if_neg c3] at H
       have c3b0 : decide (x5_2 < (x3_1.length : Int)) = false := decide_eq_false c3
       clear c3
       obtain ⟨y155, hy155⟩ : ∃ y_ : List Int, y_ = (([] : List Int)) := ⟨_, rfl⟩
       replace H : (if 0 ≤ x5_2 then (if x5_2 ≤ (x3_1.length : Int) then ((some (x3_1.take (x5_2 : Int).toNat : List Int)).bind fun y158 => (if y155.length + y158.length < 17592186044416 then ((some (y155 ++ y158 : List Int)).bind fun y162 => (if y162.length < 17592186044416 then ((some (y162 ++ [x4_1] : List Int)).bind fun y165 => ((some (x3_1.drop (x5_2 : Int).toNat : List Int)).bind fun y168 => (if y165.length + y168.length < 17592186044416 then (incipitref15_Sort.l0 k2 l0 (y165 ++ y168) (wrap64 (x4_1 + 1))) else (none)))) else (none))) else (none))) else (none)) else (none)) = some r := by first | (rw [hy155]; with_reducible exact H) | (have H2_ := (Option.bind_some _ _).symm.trans H; rw [hy155]; with_reducible exact H2_) | (have H2_ := (Option.bind_some _ _).symm.trans H; with_reducible exact H2_) | with_reducible exact H | (rw [hy155]; exact H) | exact H
       have Ny155 := Aside0.mk hy155
       clear hy155
       by_cases c23 : 0 ≤ x5_2
       ·rw [if_pos c23] at H
        have c23b0 := eq_true c23
        have c23b1 : decide (0 ≤ x5_2) = true := decide_eq_true c23
        clear c23
        by_cases c24 : x5_2 ≤ (x3_1.length : Int)
        ·rw [if_pos c24] at H
         have c24b0 := eq_true c24
         have c24b1 : decide (x5_2 ≤ (x3_1.length : Int)) = true := decide_eq_true c24
         clear c24
         obtain ⟨y158, hy158⟩ : ∃ y_ : List Int, y_ = (x3_1.take (x5_2 : Int).toNat) := ⟨_, rfl⟩
         replace H : (if y155.length + y158.length < 17592186044416 then ((some (y155 ++ y158 : List Int)).bind fun y162 => (if y162.length < 17592186044416 then ((some (y162 ++ [x4_1] : List Int)).bind fun y165 => ((some (x3_1.drop (x5_2 : Int).toNat : List Int)).bind fun y168 => (if y165.length + y168.length < 17592186044416 then (incipitref15_Sort.l0 k2 l0 (y165 ++ y168) (wrap64 (x4_1 + 1))) else (none)))) else (none))) else (none)) = some r := by first | (rw [hy158]; with_reducible exact H) | (have H2_ := (Option.bind_some _ _).symm.trans H; rw [hy158]; with_reducible exact H2_) | (have H2_ := (Option.bind_some _ _).symm.trans H; with_reducible exact H2_) | with_reducible exact H | (rw [hy158]; exact H) | exact H
         have Ny158 := Aside0.mk hy158
         clear hy158
         by_cases c25 : y155.length + y158.length < 17592186044416
         ·rw [if_pos c25] at H
          have LMc25 := Aside0.mk c25
          clear c25
          obtain ⟨y162, hy162⟩ : ∃ y_ : List Int, y_ = (y155 ++ y158) := ⟨_, rfl⟩
          replace H : (if y162.length < 17592186044416 then ((some (y162 ++ [x4_1] : List Int)).bind fun y165 => ((some (x3_1.drop (x5_2 : Int).toNat : List Int)).bind fun y168 => (if y165.length + y168.length < 17592186044416 then (incipitref15_Sort.l0 k2 l0 (y165 ++ y168) (wrap64 (x4_1 + 1))) else (none)))) else (none)) = some r := by first | (rw [hy162]; with_reducible exact H) | (have H2_ := (Option.bind_some _ _).symm.trans H; rw [hy162]; with_reducible exact H2_) | (have H2_ := (Option.bind_some _ _).symm.trans H; with_reducible exact H2_) | with_reducible exact H | (rw [hy162]; exact H) | exact H
          have Ny162 := Aside0.mk hy162
          clear hy162
          by_cases c26 : y162.length < 17592186044416
          ·rw [if_pos c26] at H
           have LMc26 := Aside0.mk c26
           clear c26
           obtain ⟨y165, hy165⟩ : ∃ y_ : List Int, y_ = (y162 ++ [x4_1]) := ⟨_, rfl⟩
           replace H : ((some (x3_1.drop (x5_2 : Int).toNat : List Int)).bind fun y168 => (if y165.length + y168.length < 17592186044416 then (incipitref15_Sort.l0 k2 l0 (y165 ++ y168) (wrap64 (x4_1 + 1))) else (none))) = some r := by first | (rw [hy165]; with_reducible exact H) | (have H2_ := (Option.bind_some _ _).symm.trans H; rw [hy165]; with_reducible exact H2_) | (have H2_ := (Option.bind_some _ _).symm.trans H; with_reducible exact H2_) | with_reducible exact H | (rw [hy165]; exact H) | exact H
           have Ny165 := Aside0.mk hy165
           clear hy165
           have c27b0 := eq_true (of_decide_eq_true (by first | (with_reducible assumption) | assumption) : 0 ≤ x5_2)
           have c28b0 := eq_true (of_decide_eq_true (by first | (with_reducible assumption) | assumption) : x5_2 ≤ (x3_1.length : Int))
           obtain ⟨y168, hy168⟩ : ∃ y_ : List Int, y_ = (x3_1.drop (x5_2 : Int).toNat) := ⟨_, rfl⟩
           replace H : (if y165.length + y168.length < 17592186044416 then (incipitref15_Sort.l0 k2 l0 (y165 ++ y168) (wrap64 (x4_1 + 1))) else (none)) = some r := by first | (rw [hy168]; with_reducible exact H) | (have H2_ := (Option.bind_some _ _).symm.trans H; rw [hy168]; with_reducible exact H2_) | (have H2_ := (Option.bind_some _ _).symm.trans H; with_reducible exact H2_) | with_reducible exact H | (rw [hy168]; exact H) | exact H
           have Ny168 := Aside0.mk hy168
           clear hy168
           by_cases c29 : y165.length + y168.length < 17592186044416
           ·rw [if_pos c29] at H
            have LMc29 := Aside0.mk c29
            clear c29
            obtain ⟨y172, hy172⟩ : ∃ y_ : List Int, y_ = (y165 ++ y168) := ⟨_, rfl⟩
            replace H : (incipitref15_Sort.l0 k2 l0 y172 (wrap64 (x4_1 + 1))) = some r := by first | (rw [hy172]; with_reducible exact H) | (have H2_ := (Option.bind_some _ _).symm.trans H; rw [hy172]; with_reducible exact H2_) | (have H2_ := (Option.bind_some _ _).symm.trans H; with_reducible exact H2_) | with_reducible exact H | (rw [hy172]; exact H) | exact H
            have Ny172 := Aside0.mk hy172
            clear hy172
            have H' := Aside0.mk H
            clear H
            obtain ⟨Ao30, co30, eo30⟩ := Kd.R_slice HO_3.out
            subst eo30
            go_wp2_with (first | ((with_reducible refine gate_dst (N := 28) rfl ?_); refine Kd.R_lit (Kd.int .i64) _ 3 ?hg (N := 28) ?hd (xs := ([] : List Int)) (inner := []) (ok := fun _ => True) (okp := fun _ => True) ?hr ?hp (fun _ hk => hk) trivial (Below.refl _ _) (Nat.le_refl _) (by simp) ?_; (case hd => rfl); (case hg => rfl); (case hr => first | (go_simp; done) | (go_simp; rfl)); (case hp => exact (Reps.none _ _)); intro v156 w31 ho32 hb hg_ hnew_; clear hg_ hnew_; (first | rw [← Ny155.out] at ho32 | (simp only [Int.reduceToNat] at ho32; rw [← Ny155.out] at ho32)); have n0_ := Aside0.mk (Kd.R_elder' (by (with_reducible repeat (first | apply Kd.R_alloc | apply Kd.R_drewN | apply Kd.R_drew)); exact HO_3.out) (Kd.R_base ho32) hb); have n1_ := Aside0.mk (Kd.R_lower (Kd.R_new' ho32 (Kd.R_lt (by (with_reducible repeat (first | apply Kd.R_alloc | apply Kd.R_drewN | apply Kd.R_drew)); exact HO_3.out))) (below_size (by repeat (first | (with_reducible first | exact HB.out | apply below_alloc | apply pw_below_drewN | apply below_drew1) | exact HB.out)))); have n2_ := Aside0.mk (below_step (by repeat (first | (with_reducible first | exact HB.out | apply below_alloc | apply pw_below_drewN | apply below_drew1) | exact HB.out)) hb); clear HO_3; clear HB; have HO_3 := n0_; have HO157 := n1_; have HB := n2_; clear n0_ n1_ n2_; clear hb ho32; have q33 : (x5_2 : Int) ≤ ((x3_1.length : Int) : Int) := of_decide_eq_true (by first | (with_reducible assumption) | assumption); obtain ⟨i033, hi033, _, hsz33, _⟩ := info_parts info3; have hroom33 : x3_1.length ≤ co30 := (Kd.R_reads' HO_3.out).2.1; have hC33 : Kd.C (Kd.int .i64) _ Ao30 x3_1.length x3_1 := (Kd.R_reads' HO_3.out).2.2; have hcut33 := cut_to (P := Try.prog) 22 3 .i64 Try.underlying22 hi033 Ao30 x3_1.length co30 x5_2 (of_decide_eq_true (by first | (with_reducible assumption) | assumption)) q33 hroom33; have hr33 := Kd.C_take (m := (x5_2 : Int).toNat) hC33 (by omega); have hy33 : y158.length = (x5_2 : Int).toNat := (by rw [Ny158.out, List.length_take]; omega); rw [← Ny158.out] at hr33; rw [← hy33] at hcut33; have HR161 := Aside0.mk hr33; have HC161 := Aside0.mk (show y158.length ≤ co30 from by omega); clear hr33 hC33 hroom33 hi033 hsz33; have KY33 := Aside0.mk hy33; clear hy33; have KL33 := Aside0.mk (show (x5_2 : Int).toNat ≤ x3_1.length from by omega); replace q33 := eq_true q33) | ((with_reducible refine gate_builtin (b := .append) (xs := #[.tmp 28, .tmp 31]) rfl ?_); at_builtin; refine Kd.R_append_rows (Kd.int .i64) (w0 := w) w.heap.size rfl (.tmp 28) (.tmp 31) 22 3 (.int .i64 0) 8 rfl Try.underlying22 info3 rfl (by decide) (by omega) v156 y155 y158 _ _ _ (fun k_ => some k_ ≠ (.slice Ao30 x3_1.length co30 : Value).ownBlock) (fun _ => False) rfl rfl ?aO ?aR (fun _ _ h => h) (fun _ h => h.elim) ?aF ?aB ?aS ?aL ?_; (case aR => repeat (first | exact (by repeat (first | (with_reducible exact HR161.out) | (with_reducible refine Kd.C_alloc ?_ _) | (with_reducible refine Kd.C_drewN ?_ _) | (with_reducible refine Kd.C_drew ?_) | exact HR161.out)) | (with_reducible refine Kd.C_alloc ?_ _) | (with_reducible refine Kd.C_drewN ?_ _) | (with_reducible refine Kd.C_drew ?_))); (case aB => exact (by repeat (first | (with_reducible first | exact HB.out | apply below_alloc | apply pw_below_drewN | apply below_drew1) | exact HB.out))); (case aF => exact (fun k_ hk => Kd.fresh' (Kd.R_lt (by (with_reducible repeat (first | apply Kd.R_alloc | apply Kd.R_drewN | apply Kd.R_drew)); exact HO_3.out)) k_ hk)); (case aO => exact (by (with_reducible repeat (first | apply Kd.R_alloc | apply Kd.R_drewN | apply Kd.R_drew)); exact Kd.R_mono HO157.out (fun _ hk => hk.2))); (case aS => exact (below_size (by repeat (first | (with_reducible first | exact HB.out | apply below_alloc | apply pw_below_drewN | apply below_drew1) | exact HB.out)))); (case aL => have := LMc25.out; omega); intro v163 w34 ho hb hg hat; rw [← Ny162.out] at ho; have n0_ := Aside0.mk (Kd.R_after (ok := (fun _ => True)) (by (with_reducible repeat (first | apply Kd.R_alloc | apply Kd.R_drewN | apply Kd.R_drew)); exact HO_3.out) hg hat); have n1_ := Aside0.mk (hb); have n2_ := Aside0.mk ((show Kd.C (Kd.int .i64) w34 Ao30 y158.length y158 from by rw [Ny158.out]; exact Kd.C_take (m := (x5_2 : Int).toNat) ((Kd.R_reads' (Kd.R_after (ok := (fun _ => True)) (by (with_reducible repeat (first | apply Kd.R_alloc | apply Kd.R_drewN | apply Kd.R_drew)); exact HO_3.out) hg hat)).2.2) KL33.out)); have n3_ := Aside0.mk (ho); clear HO_3; clear HB; clear HR161; clear HO157; have HO_3 := n0_; have HB := n1_; have HR161 := n2_; have HO164 := n3_; clear n0_ n1_ n2_ n3_; clear ho hb hg hat) | ((with_reducible refine gate_builtin (b := .append) (xs := #[.tmp 32, .tmp 34]) rfl ?_); at_builtin; refine Kd.R_append (Kd.int .i64) (w0 := w) w.heap.size rfl (.tmp 32) (.tmp 34) 22 3 (.int .i64 0) 8 rfl Try.underlying22 info3 rfl (by decide) (by omega) v163 y162 x4_1 [.int .i64 x4_1] (fun k_ => some k_ ≠ (.slice Ao30 x3_1.length co30 : Value).ownBlock) (fun _ => False) rfl rfl ?aP (fun _ hk => hk.elim) ?aF ?aO ?aB ?aS ?aL ?_; (case aP => exact rfl); (case aB => exact (by repeat (first | (with_reducible first | exact HB.out | apply below_alloc | apply pw_below_drewN | apply below_drew1) | exact HB.out))); (case aF => exact (fun k_ hk => Kd.fresh' (Kd.R_lt (by (with_reducible repeat (first | apply Kd.R_alloc | apply Kd.R_drewN | apply Kd.R_drew)); exact HO_3.out)) k_ hk)); (case aO => exact (by (with_reducible repeat (first | apply Kd.R_alloc | apply Kd.R_drewN | apply Kd.R_drew)); exact HO164.out)); (case aS => exact (below_size (by repeat (first | (with_reducible first | exact HB.out | apply below_alloc | apply pw_below_drewN | apply below_drew1) | exact HB.out)))); (case aL => have := LMc26.out; omega); intro v166 w35 ho hb hg hat; rw [← Ny165.out] at ho; have n0_ := Aside0.mk (Kd.R_after (ok := (fun _ => True)) (by (with_reducible repeat (first | apply Kd.R_alloc | apply Kd.R_drewN | apply Kd.R_drew)); exact HO_3.out) hg hat); have n1_ := Aside0.mk (hb); have n2_ := Aside0.mk ((show Kd.C (Kd.int .i64) w35 Ao30 y158.length y158 from by rw [Ny158.out]; exact Kd.C_take (m := (x5_2 : Int).toNat) ((Kd.R_reads' (Kd.R_after (ok := (fun _ => True)) (by (with_reducible repeat (first | apply Kd.R_alloc | apply Kd.R_drewN | apply Kd.R_drew)); exact HO_3.out) hg hat)).2.2) KL33.out)); have n3_ := Aside0.mk (ho); clear HO_3; clear HB; clear HR161; clear HO164; have HO_3 := n0_; have HB := n1_; have HR161 := n2_; have HO167 := n3_; clear n0_ n1_ n2_ n3_; clear ho hb hg hat; have q36 : (x5_2 : Int) ≤ ((x3_1.length : Int) : Int) := of_decide_eq_true (by first | (with_reducible assumption) | assumption); obtain ⟨i036, hi036, _, hsz36, _⟩ := info_parts info3; have hroom36 : x3_1.length ≤ co30 := (Kd.R_reads' HO_3.out).2.1; have hC36 : Kd.C (Kd.int .i64) _ Ao30 x3_1.length x3_1 := (Kd.R_reads' HO_3.out).2.2; have q036 : (0 : Int) ≤ (x5_2 : Int) := of_decide_eq_true (by first | (with_reducible assumption) | assumption); have hcut36 := cut_from (P := Try.prog) 22 3 .i64 Try.underlying22 hi036 1 hsz36 Ao30 x3_1.length co30 x5_2 q036 q36; have hr36 := Kd.C_drop (m := (x5_2 : Int).toNat) (c := co30) hC36 (by omega) hroom36; obtain ⟨A36, hA36⟩ : ∃ A1, A1 = (if co30 = (x5_2 : Int).toNat then Ao30 else (Ao30 : Option Addr).map (·.add ((x5_2 : Int).toNat * 1))) := ⟨_, rfl⟩; obtain ⟨c36, hc36⟩ : ∃ c1, c1 = co30 - (x5_2 : Int).toNat := ⟨_, rfl⟩; have hy36 : y168.length = x3_1.length - (x5_2 : Int).toNat := (by rw [Ny168.out, List.length_drop] <;> omega); rw [show (x3_1).drop (x5_2 : Int).toNat = y168 from Ny168.out.symm] at hr36; replace hr36 : Kd.C (Kd.int .i64) _ A36 y168.length y168 := (by rw [hA36]; exact hr36); rw [← hy36, ← hA36, ← hc36] at hcut36; have HR171 := Aside0.mk hr36; have HC171 := Aside0.mk (show y168.length ≤ c36 from by rw [hy36, hc36]; exact Nat.sub_le_sub_right hroom36 _); clear hr36 hC36 hroom36 hi036 hsz36 hc36; have KY36 := Aside0.mk hy36; have KA36 := Aside0.mk hA36; clear hy36 hA36; have KL36 := Aside0.mk (show (x5_2 : Int).toNat ≤ x3_1.length from by omega); replace q36 := eq_true q36) | ((with_reducible refine gate_builtin (b := .append) (xs := #[.tmp 36, .tmp 39]) rfl ?_); at_builtin; refine Kd.R_append_rows (Kd.int .i64) (w0 := w) w.heap.size rfl (.tmp 36) (.tmp 39) 22 3 (.int .i64 0) 8 rfl Try.underlying22 info3 rfl (by decide) (by omega) v166 y165 y168 _ _ _ (fun k_ => some k_ ≠ (.slice Ao30 x3_1.length co30 : Value).ownBlock) (fun _ => False) rfl rfl ?aO ?aR (fun _ _ h => h) (fun _ h => h.elim) ?aF ?aB ?aS ?aL ?_; (case aR => repeat (first | exact (by repeat (first | (with_reducible exact HR171.out) | (with_reducible refine Kd.C_alloc ?_ _) | (with_reducible refine Kd.C_drewN ?_ _) | (with_reducible refine Kd.C_drew ?_) | exact HR171.out)) | (with_reducible refine Kd.C_alloc ?_ _) | (with_reducible refine Kd.C_drewN ?_ _) | (with_reducible refine Kd.C_drew ?_))); (case aB => exact (by repeat (first | (with_reducible first | exact HB.out | apply below_alloc | apply pw_below_drewN | apply below_drew1) | exact HB.out))); (case aF => exact (fun k_ hk => Kd.fresh' (Kd.R_lt (by (with_reducible repeat (first | apply Kd.R_alloc | apply Kd.R_drewN | apply Kd.R_drew)); exact HO_3.out)) k_ hk)); (case aO => exact (by (with_reducible repeat (first | apply Kd.R_alloc | apply Kd.R_drewN | apply Kd.R_drew)); exact HO167.out)); (case aS => exact (below_size (by repeat (first | (with_reducible first | exact HB.out | apply below_alloc | apply pw_below_drewN | apply below_drew1) | exact HB.out)))); (case aL => have := LMc29.out; omega); intro v173 w37 ho hb hg hat; rw [← Ny172.out] at ho; have n0_ := Aside0.mk (Kd.R_after (ok := (fun _ => True)) (by (with_reducible repeat (first | apply Kd.R_alloc | apply Kd.R_drewN | apply Kd.R_drew)); exact HO_3.out) hg hat); have n1_ := Aside0.mk (hb); have n2_ := Aside0.mk ((show Kd.C (Kd.int .i64) w37 Ao30 y158.length y158 from by rw [Ny158.out]; exact Kd.C_take (m := (x5_2 : Int).toNat) ((Kd.R_reads' (Kd.R_after (ok := (fun _ => True)) (by (with_reducible repeat (first | apply Kd.R_alloc | apply Kd.R_drewN | apply Kd.R_drew)); exact HO_3.out) hg hat)).2.2) KL33.out)); have n3_ := Aside0.mk ((show Kd.C (Kd.int .i64) w37 A36 y168.length y168 from by rw [Ny168.out, KA36.out]; exact Kd.C_drop (m := (x5_2 : Int).toNat) (c := co30) ((Kd.R_reads' (Kd.R_after (ok := (fun _ => True)) (by (with_reducible repeat (first | apply Kd.R_alloc | apply Kd.R_drewN | apply Kd.R_drew)); exact HO_3.out) hg hat)).2.2) KL36.out ((Kd.R_reads' (Kd.R_after (ok := (fun _ => True)) (by (with_reducible repeat (first | apply Kd.R_alloc | apply Kd.R_drewN | apply Kd.R_drew)); exact HO_3.out) hg hat)).2.1))); have n4_ := Aside0.mk (ho); clear HO_3; clear HB; clear HR161; clear HR171; clear HO167; have HO_3 := n0_; have HB := n1_; have HR161 := n2_; have HR171 := n3_; have HO174 := n4_; clear n0_ n1_ n2_ n3_ n4_; clear ho hb hg hat))
            go_roundg k2
            case measure => have := HK1.out; have := HK2.out; omega
            case rel => exact ⟨(y172), (wrap64 (x4_1 + 1)), (by first | rfl | (simp; done) | (simp [*]; done)), H', ⟨by have := HK1.out; have := HK2.out; omega⟩, ⟨by (with_reducible repeat (first | apply Kd.R_alloc | apply Kd.R_drewN | apply Kd.R_drew)); exact Kd.R_mono HO174.out (fun _ hk => trivial)⟩, ⟨by repeat (first | (with_reducible first | exact HB.out | apply below_alloc | apply pw_below_drewN | apply below_drew1) | exact HB.out)⟩⟩
           ·rw [if_neg c29] at H
            exact absurd H (by simp)
          ·rw [if_neg c26] at H
           exact absurd H (by simp)
         ·rw [if_neg c25] at H
          exact absurd H (by simp)
        ·rw [if_neg c24] at H
         exact absurd H (by simp)
       ·rw [if_neg c23] at H
        exact absurd H (by simp)
   ·rw [if_neg c2] at H
    have c2b0 : decide (x4_1 < (l0.length : Int)) = false := decide_eq_false c2
    clear c2
    obtain rfl := Option.some.inj H
    go_wp2
    go_ret
    exact ⟨_, by first | rfl | (simp [errW_none, errW_some] <;> rfl) | (simp [*, errW_none, errW_some] <;> rfl), by (with_reducible repeat (first | apply Kd.R_alloc | apply Kd.R_drewN | apply Kd.R_drew)); exact HO_3.out, by repeat (first | (with_reducible first | exact HB.out | apply below_alloc | apply pw_below_drewN | apply below_drew1) | exact HB.out)⟩

/-! ### slices_Index_int_int: function 59 -/
def slices_Index_int_int.l0 : Nat → List Int → Int → Int → Int → Option (Int)
 | 0, _, _, _, _ => none
 | k + 1, x0, x1, x7, x8 => if x8 < x7 then (if 0 ≤ x8 then (if x8 < (x0.length : Int) then (if x1 = (rd x0 x8) then (some x8) else (slices_Index_int_int.l0 k x0 x1 x7 (wrap64 (x8 + 1)))) else (none)) else (none)) else (some (-1))
def slices_Index_int_int.f (k : Nat) (l0 : List Int) (a1 : Int) : Option (Int) := slices_Index_int_int.l0 k l0 a1 (l0.length : Int) 0
theorem slices_Index_int_int.mono_l : ∀ k, (∀ y0 y1 y2 y3, LeO (slices_Index_int_int.l0 k y0 y1 y2 y3) (slices_Index_int_int.l0 (k + 1) y0 y1 y2 y3))
 | 0 => fun _ _ _ _ r h => by simp [slices_Index_int_int.l0] at h
 | k + 1 => by
  have ih0 := slices_Index_int_int.mono_l k
  ·intro y0 y1 y2 y3
   unfold slices_Index_int_int.l0
   repeat' first
   | (with_reducible exact ih0 _ _ _ _)
   | (with_reducible exact LeO.refl _)
   | (with_reducible exact LeO.none _)
   | (with_reducible refine LeO.ite ?_ ?_)
   | (with_reducible refine LeO.bind ?_ (fun _ => ?_))
   | exact ih0 _ _ _ _
   | exact LeO.none _
   | refine LeO.ite ?_ ?_
   | refine LeO.bind ?_ (fun _ => ?_)
theorem slices_Index_int_int.mono : ∀ a0 a1 k, LeO (slices_Index_int_int.f k a0 a1) (slices_Index_int_int.f (k + 1) a0 a1) := by
 intro a0 a1 k
 have ih0 := slices_Index_int_int.mono_l k
 unfold slices_Index_int_int.f
 repeat' first
   | (with_reducible exact ih0 _ _ _ _)
   | (with_reducible exact LeO.refl _)
   | (with_reducible exact LeO.none _)
   | (with_reducible refine LeO.ite ?_ ?_)
   | (with_reducible refine LeO.bind ?_ (fun _ => ?_))
   | exact ih0 _ _ _ _
   | exact LeO.none _
   | refine LeO.ite ?_ ?_
   | refine LeO.bind ?_ (fun _ => ?_)
set_option maxHeartbeats 8000000 in
set_option maxRecDepth 100000 in
theorem slices_Index_int_int.calls (k : Nat) (A0 : Option Addr) (c0 : Nat) (l0 : List Int) (a1 : Int) (r : Int) (w : World) (hr0 : Kd.C (Kd.int .i64) w A0 l0.length l0) (hc0 : l0.length ≤ c0) (h : slices_Index_int_int.f k l0 a1 = some r) :
  Calls Try.prog 59 #[.slice A0 l0.length c0, .int .i64 a1] w fun e w' => e = .returned (.int .i64 r) ∧ Drawn0 w w' := by
 have HR0 := Aside0.mk hr0
 have HC0 := Aside0.mk hc0
 clear hr0 hc0
 have H : (slices_Index_int_int.l0 k l0 a1 (l0.length : Int) 0) = some r := h
 clear h
 have H' := Aside0.mk H
 clear H
 go_enter Try.func59, Try.ntmps59
 go_wp2
 go_loopg [8] k (fun kq v8 w' => ∃ (x8_1 : Int), v8 = .int .i64 x8_1 ∧ Aside0 (slices_Index_int_int.l0 kq l0 a1 (l0.length : Int) x8_1 = some r) ∧ Aside0 (kq ≤ k) ∧ Drawn0 w w')
 case atStart => exact ⟨(0), (by first | rfl | (simp; done) | (simp [*]; done)), H', ⟨Nat.le_refl _⟩, by repeat (first | exact Drawn0.refl _ | apply Drawn0.step)⟩
 case round =>
  clear H'
  try clear p2
  obtain ⟨x8_1, rfl, HA, HK1, ⟨m1, rfl⟩⟩ := hrel
  cases gk with
  | zero => exact absurd HA.out (by simp [slices_Index_int_int.l0])
  | succ k1 =>
   have H := HA.out
   clear HA
   simp only [slices_Index_int_int.l0] at H
   by_cases c3 : x8_1 < (l0.length : Int)
   ·rw [if_pos c3] at H
    have c3b0 : decide (x8_1 < (l0.length : Int)) = true := decide_eq_true c3
    clear c3
    by_cases c4 : 0 ≤ x8_1
    ·rw [if_pos c4] at H
     have c4b0 : decide (0 ≤ x8_1) = true := decide_eq_true c4
     clear c4
     by_cases c5 : x8_1 < (l0.length : Int)
     ·rw [if_pos c5] at H
      have c5b0 : decide (x8_1 < (l0.length : Int)) = true := decide_eq_true c5
      clear c5
      by_cases c6 : a1 = (rd l0 x8_1)
      ·rw [if_pos c6] at H
       have c6b0 : (a1 == (rd l0 x8_1)) = true := beq_iff_eq.mpr c6
       have c6b1 : (a1 != (rd l0 x8_1)) = false := bne_eq_false_iff_eq.mpr c6
       clear c6
       obtain rfl := Option.some.inj H
       have p175 : 0 ≤ (x8_1 : Int) := of_decide_eq_true (by first | (with_reducible assumption) | assumption)
       have q175 : x8_1 < (l0.length : Int) := of_decide_eq_true (by first | (with_reducible assumption) | assumption)
       obtain ⟨ad175, e175, hx175_0⟩ := Kd.at_int HR0.out x8_1 p175 q175
       cases e175
       replace p175 := eq_true p175
       replace q175 := eq_true q175
       go_wp2
       go_ret
       exact ⟨by first | rfl | (simp; done) | (simp [*]; done), by repeat (first | exact Drawn0.refl _ | apply Drawn0.step)⟩
      ·rw [if_neg c6] at H
       have c6b0 : (a1 == (rd l0 x8_1)) = false := beq_eq_false_iff_ne.mpr c6
       have c6b1 : (a1 != (rd l0 x8_1)) = true := bne_iff_ne.mpr c6
       have H' := Aside0.mk H
       clear H
       have p175 : 0 ≤ (x8_1 : Int) := of_decide_eq_true (by first | (with_reducible assumption) | assumption)
       have q175 : x8_1 < (l0.length : Int) := of_decide_eq_true (by first | (with_reducible assumption) | assumption)
       obtain ⟨ad175, e175, hx175_0⟩ := Kd.at_int HR0.out x8_1 p175 q175
       cases e175
       replace p175 := eq_true p175
       replace q175 := eq_true q175
       go_wp2
       go_roundg k1
       case measure => have := HK1.out; omega
       case rel => exact ⟨(wrap64 (x8_1 + 1)), (by first | rfl | (simp; done) | (simp [*]; done)), H', ⟨by have := HK1.out; omega⟩, by repeat (first | exact Drawn0.refl _ | apply Drawn0.step)⟩
     ·rw [if_neg c5] at H
      exact absurd H (by simp)
    ·rw [if_neg c4] at H
     exact absurd H (by simp)
   ·rw [if_neg c3] at H
    have c3b0 : decide (x8_1 < (l0.length : Int)) = false := decide_eq_false c3
    clear c3
    obtain rfl := Option.some.inj H
    go_wp2
    go_ret
    exact ⟨by first | rfl | (simp; done) | (simp [*]; done), by repeat (first | exact Drawn0.refl _ | apply Drawn0.step)⟩

/-! ### suffix_Check: function 33 (by hand) -/
def suffix_Check.f (k : Nat) (l0 : List Int) : Option (Int) := if 65536 < l0.length then some 2 else if inKs .i64 l0 = true then (if l0.any badCode = true then some 10 else (slices_Index_int_int.f k l0 0).bind fun i => if i = (l0.length : Int) - 1 then (if l0.length = 0 then some 3 else some 0) else some 3) else none
theorem suffix_Check.mono : ∀ a0 k, LeO (suffix_Check.f k a0) (suffix_Check.f (k + 1) a0) := by
 intro a0 k r h
 unfold suffix_Check.f at h ⊢
 by_cases h1 : 65536 < a0.length
 ·rw [if_pos h1] at h ⊢; exact h
 ·rw [if_neg h1] at h ⊢
  by_cases h2 : inKs .i64 a0 = true
  ·rw [if_pos h2] at h ⊢
   by_cases h3 : a0.any badCode = true
   ·rw [if_pos h3] at h ⊢; exact h
   ·rw [if_neg h3] at h ⊢
    obtain ⟨i, hi, h⟩ := Option.bind_eq_some_iff.1 h
    rw [slices_Index_int_int.mono _ _ _ _ hi, Option.bind_some]
    exact h
  ·rw [if_neg h2] at h; cases h
set_option maxHeartbeats 2000000 in
set_option maxRecDepth 100000 in
theorem suffix_Check.calls (k : Nat) (A0 : Option Addr) (c0 : Nat) (l0 : List Int) (r : Int) (w : World) (hr0 : Kd.C (Kd.int .i64) w A0 l0.length l0) (hc0 : l0.length ≤ c0) (h : suffix_Check.f k l0 = some r) :
  Calls Try.prog 33 #[.slice A0 l0.length c0] w fun e w' => e = .returned (.int .i64 r) ∧ Drawn0 w w' := by
 unfold suffix_Check.f at h
 have hlen : l0.length ≤ 9223372036854775807 := hr0.2.1
 by_cases h1 : 65536 < l0.length
 ·rw [if_pos h1] at h
  obtain rfl := Option.some.inj h
  clear h
  go_enter Try.func33, Try.ntmps33
  go_wp2_with fail
  go_ret
  exact ⟨rfl, Drawn0.refl _⟩
 ·rw [if_neg h1] at h
  have hd1 : decide (65536 < l0.length) = false := decide_eq_false h1
  have hd2 : decide ((65536 : Int) < (l0.length : Int)) = false := decide_eq_false (by omega)
  have hl16 : l0.length ≤ 65536 := by omega
  clear h1
  obtain ⟨hin, h⟩ : inKs .i64 l0 = true ∧ (if l0.any badCode = true then some 10 else (slices_Index_int_int.f k l0 0).bind fun i => if i = (l0.length : Int) - 1 then (if l0.length = 0 then some 3 else some 0) else some 3) = some r := by
   cases hi : inKs .i64 l0 with
   | true => rw [hi, if_pos rfl] at h; exact ⟨rfl, h⟩
   | false => rw [hi, if_neg (by decide)] at h; cases h
  have HCB := Lib.hid (containsBad A0 l0.length c0 l0 w (rd_of_kd hr0 (inKs_of hin)))
  cases hany : l0.any badCode with
  | true =>
   rw [hany, if_pos rfl] at h
   rw [hany] at HCB
   obtain rfl := Option.some.inj h
   clear h hin hany
   go_enter Try.func33, Try.ntmps33
   go_wp2_with fail
   refine (HCB.out).mono ?_
   rintro e w' ⟨rfl, rfl⟩
   go_wp2_with fail
   go_ret
   exact ⟨rfl, Drawn0.refl _⟩
  | false =>
   rw [hany, if_neg (by decide)] at h
   rw [hany] at HCB
   obtain ⟨i, hi, h⟩ := Option.bind_eq_some_iff.1 h
   have HIX := Lib.hid (slices_Index_int_int.calls k A0 c0 l0 0 i w hr0 hc0 hi)
   clear hin hany hi
   by_cases h2 : i = (l0.length : Int) - 1
   ·rw [if_pos h2] at h
    have hb2 : (i != (l0.length : Int) - 1) = false := by simpa using h2
    have hb3 : (i == (l0.length : Int) - 1) = true := by simpa using h2
    by_cases h0 : l0.length = 0
    ·have he : l0 = [] := List.eq_nil_of_length_eq_zero h0
     subst he
     rw [if_pos h0] at h
     obtain rfl := Option.some.inj h
     subst h2
     clear h
     go_enter Try.func33, Try.ntmps33
     go_wp2_with fail
     refine (HCB.out).mono ?_
     rintro e w' ⟨rfl, rfl⟩
     go_wp2_with fail
     refine (HIX.out).mono ?_
     rintro e w' ⟨rfl, hdr⟩
     go_wp2_with fail
     go_ret
     exact ⟨rfl, hdr⟩
    ·rw [if_neg h0] at h
     obtain rfl := Option.some.inj h
     have hb4 : ((l0.length : Int) == 0) = false := by simpa using (show (l0.length : Int) ≠ 0 by omega)
     have hb5 : ¬ l0 = [] := fun e => h0 (by rw [e]; rfl)
     clear h h2
     go_enter Try.func33, Try.ntmps33
     go_wp2_with fail
     refine (HCB.out).mono ?_
     rintro e w' ⟨rfl, rfl⟩
     go_wp2_with fail
     refine (HIX.out).mono ?_
     rintro e w' ⟨rfl, hdr⟩
     go_wp2_with fail
     go_ret
     exact ⟨rfl, hdr⟩
   ·rw [if_neg h2] at h
    obtain rfl := Option.some.inj h
    have hb2 : (i != (l0.length : Int) - 1) = true := by simpa using h2
    have hb3 : (i == (l0.length : Int) - 1) = false := by simpa using h2
    clear h h2
    go_enter Try.func33, Try.ntmps33
    go_wp2_with fail
    refine (HCB.out).mono ?_
    rintro e w' ⟨rfl, rfl⟩
    go_wp2_with fail
    refine (HIX.out).mono ?_
    rintro e w' ⟨rfl, hdr⟩
    go_wp2_with fail
    go_ret
    exact ⟨rfl, hdr⟩


/-! ### induce_Heads: function 34 (by hand) -/
def induce_Heads.f (k : Nat) (l0 : List Int) : Option (List Int × Int) := (suffix_Check.f k l0).bind fun e => if e = 0 then (if CodesP l0 then some (headsL l0, 0) else none) else some ([], e)
theorem induce_Heads.mono : ∀ a0 k, LeO (induce_Heads.f k a0) (induce_Heads.f (k + 1) a0) := by
 intro a0 k r h
 unfold induce_Heads.f at h ⊢
 obtain ⟨e, he, h⟩ := Option.bind_eq_some_iff.1 h
 rw [suffix_Check.mono _ _ _ he, Option.bind_some]
 exact h
theorem induce_Heads.calls (k : Nat) (A0 : Option Addr) (c0 : Nat) (l0 : List Int) (r1 : List Int) (r2 : Int) (w : World) (hr0 : Kd.C (Kd.int .i64) w A0 l0.length l0) (hc0 : l0.length ≤ c0) (h : induce_Heads.f k l0 = some (r1, r2)) :
  Calls Try.prog 34 #[.slice A0 l0.length c0] w fun e w' => ∃ v0_ : Value, e = .returned (.tuple #[v0_, .int .i64 r2]) ∧ Kd.R (Kd.int .i64) 3 w' w.heap.size (fun _ => True) v0_ r1 ∧ Below w.heap.size w w' := by
 unfold induce_Heads.f at h
 obtain ⟨e, he, h⟩ := Option.bind_eq_some_iff.1 h
 have hck : Hid (Calls Try.prog 33 #[.slice A0 l0.length c0] w fun en w' => en = .returned (.int .i64 e) ∧ ∃ q, w' = w.drewN q) := Lib.hid ((suffix_Check.calls k A0 c0 l0 e w hr0 hc0 he).mono fun _ _ h => ⟨h.1, h.2.out⟩)
 have fin : ∀ {r1 : List Int} {r2 : Int}, Calls Try.prog 34 #[.slice A0 l0.length c0] w (Ret2 w r1 r2) → Calls Try.prog 34 #[.slice A0 l0.length c0] w fun e w' => ∃ v0_ : Value, e = .returned (.tuple #[v0_, .int .i64 r2]) ∧ Kd.R (Kd.int .i64) 3 w' w.heap.size (fun _ => True) v0_ r1 ∧ Below w.heap.size w w' :=
  fun h => h.mono fun _ _ hp => by
   obtain ⟨v, he, hv, hu⟩ := hp.out
   exact ⟨v, he, kd_of_own hv fun _ _ => trivial, hu.out⟩
 by_cases h0 : e = 0
 ·subst h0
  rw [if_pos rfl] at h
  by_cases h2 : CodesP l0
  ·rw [if_pos h2] at h
   cases h
   exact fin (indHeads_ok A0 c0 l0 w (rd_of_kdc hr0 hc0 h2.codes.wf) h2.codes hck)
  ·rw [if_neg h2] at h; cases h
 ·rw [if_neg h0] at h
  cases h
  exact fin (indHeads_bad A0 c0 l0 w _ h0 hck)


/-! ### induce_Tails: function 35 (by hand) -/
def induce_Tails.f (k : Nat) (l0 : List Int) : Option (List Int × Int) := (suffix_Check.f k l0).bind fun e => if e = 0 then (if CodesP l0 then some (tailsL l0, 0) else none) else some ([], e)
theorem induce_Tails.mono : ∀ a0 k, LeO (induce_Tails.f k a0) (induce_Tails.f (k + 1) a0) := by
 intro a0 k r h
 unfold induce_Tails.f at h ⊢
 obtain ⟨e, he, h⟩ := Option.bind_eq_some_iff.1 h
 rw [suffix_Check.mono _ _ _ he, Option.bind_some]
 exact h
theorem induce_Tails.calls (k : Nat) (A0 : Option Addr) (c0 : Nat) (l0 : List Int) (r1 : List Int) (r2 : Int) (w : World) (hr0 : Kd.C (Kd.int .i64) w A0 l0.length l0) (hc0 : l0.length ≤ c0) (h : induce_Tails.f k l0 = some (r1, r2)) :
  Calls Try.prog 35 #[.slice A0 l0.length c0] w fun e w' => ∃ v0_ : Value, e = .returned (.tuple #[v0_, .int .i64 r2]) ∧ Kd.R (Kd.int .i64) 3 w' w.heap.size (fun _ => True) v0_ r1 ∧ Below w.heap.size w w' := by
 unfold induce_Tails.f at h
 obtain ⟨e, he, h⟩ := Option.bind_eq_some_iff.1 h
 have hck : Hid (Calls Try.prog 33 #[.slice A0 l0.length c0] w fun en w' => en = .returned (.int .i64 e) ∧ ∃ q, w' = w.drewN q) := Lib.hid ((suffix_Check.calls k A0 c0 l0 e w hr0 hc0 he).mono fun _ _ h => ⟨h.1, h.2.out⟩)
 have fin : ∀ {r1 : List Int} {r2 : Int}, Calls Try.prog 35 #[.slice A0 l0.length c0] w (Ret2 w r1 r2) → Calls Try.prog 35 #[.slice A0 l0.length c0] w fun e w' => ∃ v0_ : Value, e = .returned (.tuple #[v0_, .int .i64 r2]) ∧ Kd.R (Kd.int .i64) 3 w' w.heap.size (fun _ => True) v0_ r1 ∧ Below w.heap.size w w' :=
  fun h => h.mono fun _ _ hp => by
   obtain ⟨v, he, hv, hu⟩ := hp.out
   exact ⟨v, he, kd_of_own hv fun _ _ => trivial, hu.out⟩
 by_cases h0 : e = 0
 ·subst h0
  rw [if_pos rfl] at h
  by_cases h2 : CodesP l0
  ·rw [if_pos h2] at h
   cases h
   exact fin (indTails_ok A0 c0 l0 w (rd_of_kdc hr0 hc0 h2.codes.wf) h2.codes hck)
  ·rw [if_neg h2] at h; cases h
 ·rw [if_neg h0] at h
  cases h
  exact fin (indTails_bad A0 c0 l0 w _ h0 hck)


end Go.Proofs.Ythkofhidhghmmaa.PIndS
