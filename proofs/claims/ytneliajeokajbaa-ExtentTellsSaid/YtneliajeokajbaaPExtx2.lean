-- Written by a program of this session (wip/tools/pp.sh, on the pattern of the kit's print): not typed by hand.
import Derived.Test.YtneliajeokajbaaPExtx0
namespace Go.Proofs.Ytneliajeokajbaa.PExt
open Go.RowKit Go.Proofs.YtneliajeokajbaaW.PrintWords Go.Proofs.YtneliajeokajbaaW.PrintLast Go.Proofs.YtneliajeokajbaaW.PrintMore
attribute [local go_sem] max2_int min2_int max_two min_two max_three min_three max_four min_four   -- for this text's walks alone
set_option linter.unusedVariables false
set_option linter.unusedSimpArgs false

/-! ### incipitref06_Same: function 16 -/
def incipitref06_Same.l0 : Nat → List Int → List Int → Int → Option (Bool)
 | 0, _, _, _ => none
 | k + 1, x0, x1, x5 => if x5 < (x0.length : Int) then (if 0 ≤ x5 then (if x5 < (x1.length : Int) then (if (rd x0 x5) = (rd x1 x5) then (incipitref06_Same.l0 k x0 x1 (wrap64 (x5 + 1))) else (some false)) else (none)) else (none)) else (some true)
def incipitref06_Same.f (k : Nat) (l0 : List Int) (l1 : List Int) : Option (Bool) := if (l0.length : Int) = (l1.length : Int) then (incipitref06_Same.l0 k l0 l1 0) else (some false)
theorem incipitref06_Same.mono_l : ∀ k, (∀ y0 y1 y2, LeO (incipitref06_Same.l0 k y0 y1 y2) (incipitref06_Same.l0 (k + 1) y0 y1 y2))
 | 0 => fun _ _ _ r h => by simp [incipitref06_Same.l0] at h
 | k + 1 => by
  have ih0 := incipitref06_Same.mono_l k
  ·intro y0 y1 y2
   unfold incipitref06_Same.l0
   repeat' first
   | (with_reducible exact ih0 _ _ _)
   | (with_reducible exact LeO.refl _)
   | (with_reducible exact LeO.none _)
   | (with_reducible refine LeO.ite ?_ ?_)
   | (with_reducible refine LeO.bind ?_ (fun _ => ?_))
   | exact ih0 _ _ _
   | exact LeO.none _
   | refine LeO.ite ?_ ?_
   | refine LeO.bind ?_ (fun _ => ?_)
theorem incipitref06_Same.mono : ∀ a0 a1 k, LeO (incipitref06_Same.f k a0 a1) (incipitref06_Same.f (k + 1) a0 a1) := by
 intro a0 a1 k
 have ih0 := incipitref06_Same.mono_l k
 unfold incipitref06_Same.f
 repeat' first
   | (with_reducible exact ih0 _ _ _)
   | (with_reducible exact LeO.refl _)
   | (with_reducible exact LeO.none _)
   | (with_reducible refine LeO.ite ?_ ?_)
   | (with_reducible refine LeO.bind ?_ (fun _ => ?_))
   | exact ih0 _ _ _
   | exact LeO.none _
   | refine LeO.ite ?_ ?_
   | refine LeO.bind ?_ (fun _ => ?_)
set_option maxHeartbeats 8000000 in
set_option maxRecDepth 100000 in
theorem incipitref06_Same.calls (k : Nat) (A0 : Option Addr) (c0 : Nat) (l0 : List Int) (A1 : Option Addr) (c1 : Nat) (l1 : List Int) (r : Bool) (w : World) (hr0 : Kd.C (Kd.int .i64) w A0 l0.length l0) (hc0 : l0.length ≤ c0) (hr1 : Kd.C (Kd.int .i64) w A1 l1.length l1) (hc1 : l1.length ≤ c1) (h : incipitref06_Same.f k l0 l1 = some r) :
  Calls Try.prog 16 #[.slice A0 l0.length c0, .slice A1 l1.length c1] w fun e w' => e = .returned (.bool r) ∧ Drawn0 w w' := by
 have HR0 := Aside0.mk hr0
 have HC0 := Aside0.mk hc0
 clear hr0 hc0
 have HR1 := Aside0.mk hr1
 have HC1 := Aside0.mk hc1
 clear hr1 hc1
 have H : (if (l0.length : Int) = (l1.length : Int) then (incipitref06_Same.l0 k l0 l1 0) else (some false)) = some r := h
 clear h
 by_cases c3 : (l0.length : Int) = (l1.length : Int)
 ·rw [if_pos c3] at H
  have c3b0 : ((l0.length : Int) == (l1.length : Int)) = true := beq_iff_eq.mpr c3
  have c3b1 : ((l0.length : Int) != (l1.length : Int)) = false := bne_eq_false_iff_eq.mpr c3
  have c3b2 : (l0.length == l1.length) = true := by first | simpa using c3 | (simp at c3 ⊢; omega)
  clear c3
  have H' := Aside0.mk H
  clear H
  go_enter Try.func16, Try.ntmps16
  go_wp2
  repeat (go_quiet (fail); try go_wp2)
  go_loopg [5] k (fun kq v5 w' => ∃ (x5_1 : Int), v5 = .int .i64 x5_1 ∧ Aside0 (incipitref06_Same.l0 kq l0 l1 x5_1 = some r) ∧ Aside0 (kq ≤ k) ∧ Drawn0 w w')
  case atStart => exact ⟨(0), (by first | rfl | (simp; done) | (simp [*]; done)), H', ⟨Nat.le_refl _⟩, by repeat (first | exact Drawn0.refl _ | apply Drawn0.step)⟩
  case round =>
   clear H'
   try clear c1
   try clear p2
   try clear c3
   try clear c3b0
   try clear c3b1
   try clear c3b2
   obtain ⟨x5_1, rfl, HA, HK1, ⟨m1, rfl⟩⟩ := hrel
   cases gk with
   | zero => exact absurd HA.out (by simp [incipitref06_Same.l0])
   | succ k1 =>
    have H := HA.out
    clear HA
    simp only [incipitref06_Same.l0] at H
    by_cases c4 : x5_1 < (l0.length : Int)
    ·rw [if_pos c4] at H
     have c4b0 : decide (x5_1 < (l0.length : Int)) = true := decide_eq_true c4
     clear c4
     by_cases c5 : 0 ≤ x5_1
     ·rw [if_pos c5] at H
      have c5b0 : decide (0 ≤ x5_1) = true := decide_eq_true c5
      clear c5
      by_cases c6 : x5_1 < (l1.length : Int)
      ·rw [if_pos c6] at H
       have c6b0 : decide (x5_1 < (l1.length : Int)) = true := decide_eq_true c6
       clear c6
       by_cases c7 : (rd l0 x5_1) = (rd l1 x5_1)
       ·rw [if_pos c7] at H
        have c7b0 : ((rd l0 x5_1) == (rd l1 x5_1)) = true := beq_iff_eq.mpr c7
        have c7b1 : ((rd l0 x5_1) != (rd l1 x5_1)) = false := bne_eq_false_iff_eq.mpr c7
        clear c7
        have H' := Aside0.mk H
        clear H
        have p101 : 0 ≤ (x5_1 : Int) := of_decide_eq_true (by first | (with_reducible assumption) | assumption)
        have q101 : x5_1 < (l0.length : Int) := of_decide_eq_true (by first | (with_reducible assumption) | assumption)
        obtain ⟨ad101, e101, hx101_0⟩ := Kd.at_int HR0.out x5_1 p101 q101
        cases e101
        replace p101 := eq_true p101
        replace q101 := eq_true q101
        have p102 : 0 ≤ (x5_1 : Int) := of_decide_eq_true (by first | (with_reducible assumption) | assumption)
        have q102 : x5_1 < (l1.length : Int) := of_decide_eq_true (by first | (with_reducible assumption) | assumption)
        obtain ⟨ad102, e102, hx102_0⟩ := Kd.at_int HR1.out x5_1 p102 q102
        cases e102
        replace p102 := eq_true p102
        replace q102 := eq_true q102
        go_wp2
        repeat (go_quiet (fail); try go_wp2)
        go_roundg k1
        case measure => have := HK1.out; omega
        case rel => exact ⟨(wrap64 (x5_1 + 1)), (by first | rfl | (simp; done) | (simp [*]; done)), H', ⟨by have := HK1.out; omega⟩, by repeat (first | exact Drawn0.refl _ | apply Drawn0.step)⟩
       ·rw [if_neg c7] at H
        have c7b0 : ((rd l0 x5_1) == (rd l1 x5_1)) = false := beq_eq_false_iff_ne.mpr c7
        have c7b1 : ((rd l0 x5_1) != (rd l1 x5_1)) = true := bne_iff_ne.mpr c7
        obtain rfl := Option.some.inj H
        have p101 : 0 ≤ (x5_1 : Int) := of_decide_eq_true (by first | (with_reducible assumption) | assumption)
        have q101 : x5_1 < (l0.length : Int) := of_decide_eq_true (by first | (with_reducible assumption) | assumption)
        obtain ⟨ad101, e101, hx101_0⟩ := Kd.at_int HR0.out x5_1 p101 q101
        cases e101
        replace p101 := eq_true p101
        replace q101 := eq_true q101
        have p102 : 0 ≤ (x5_1 : Int) := of_decide_eq_true (by first | (with_reducible assumption) | assumption)
        have q102 : x5_1 < (l1.length : Int) := of_decide_eq_true (by first | (with_reducible assumption) | assumption)
        obtain ⟨ad102, e102, hx102_0⟩ := Kd.at_int HR1.out x5_1 p102 q102
        cases e102
        replace p102 := eq_true p102
        replace q102 := eq_true q102
        go_wp2
        repeat (go_quiet (fail); try go_wp2)
        go_ret
        exact ⟨by first | rfl | (simp; done) | (simp [*]; done), by repeat (first | exact Drawn0.refl _ | apply Drawn0.step)⟩
      ·rw [if_neg c6] at H
       exact absurd H (by simp)
     ·rw [if_neg c5] at H
      exact absurd H (by simp)
    ·rw [if_neg c4] at H
     have c4b0 : decide (x5_1 < (l0.length : Int)) = false := decide_eq_false c4
     clear c4
     obtain rfl := Option.some.inj H
     go_wp2
     repeat (go_quiet (fail); try go_wp2)
     go_ret
     exact ⟨by first | rfl | (simp; done) | (simp [*]; done), by repeat (first | exact Drawn0.refl _ | apply Drawn0.step)⟩
 ·rw [if_neg c3] at H
  have c3b0 : ((l0.length : Int) == (l1.length : Int)) = false := beq_eq_false_iff_ne.mpr c3
  have c3b1 : ((l0.length : Int) != (l1.length : Int)) = true := bne_iff_ne.mpr c3
  have c3b2 : (l0.length == l1.length) = false := by first | simpa using c3 | (simp at c3 ⊢; omega)
  obtain rfl := Option.some.inj H
  go_enter Try.func16, Try.ntmps16
  go_wp2
  repeat (go_quiet (fail); try go_wp2)
  go_ret
  exact ⟨by first | rfl | (simp; done) | (simp [*]; done), by repeat (first | exact Drawn0.refl _ | apply Drawn0.step)⟩

/-! ### extent_pages: function 73 (by hand) -/
def extent_pages.f (l0 : List Int) : Option (Int) := if inKs .i64 l0 = true then some (pagesErr l0) else none
theorem extent_pages.calls (A0 : Option Addr) (c0 : Nat) (l0 : List Int) (r : Int) (w : World) (hr0 : Kd.C (Kd.int .i64) w A0 l0.length l0) (hc0 : l0.length ≤ c0) (h : extent_pages.f l0 = some r) :
  Calls Try.prog 73 #[.slice A0 l0.length c0] w fun e w' => e = .returned (.int .i64 r) ∧ Below w.heap.size w w' := by
 obtain ⟨hw, rfl⟩ := if_some h
 exact (extPages_calls A0 l0.length c0 l0 w (rd_of_kd hr0 (inKs_of hw))).mono fun e w' ⟨he, hu⟩ => ⟨he, hu.out⟩


/-! ### extent_Extent_end: function 74 -/
def extent_Extent_end.f (a0_0 : Int) (a0_1 : Int) : Option (Int) := some (wrap64 (a0_0 + a0_1))
set_option maxHeartbeats 8000000 in
set_option maxRecDepth 100000 in
theorem extent_Extent_end.calls (a0_0 : Int) (a0_1 : Int) (r : Int) (w : World) (h : extent_Extent_end.f a0_0 a0_1 = some r) :
  Calls Try.prog 74 #[.agg #[.int .i64 a0_0, .int .i64 a0_1]] w fun e w' => e = .returned (.int .i64 r) ∧ Below w.heap.size w w' := by
 have hu107 := Try.underlying107
 have HB := Aside0.mk (Below.refl w.heap.size w)
 have H : (some (wrap64 (a0_0 + a0_1))) = some r := h
 clear h
 obtain rfl := Option.some.inj H
 go_enter Try.func74, Try.ntmps74
 go_wp2_with (first | ((with_reducible refine gate_dst (N := 1) rfl ?_); refine box_event ?hg (N := 1) ?hd (cs := #[.int .i64 a0_0, .int .i64 a0_1]) (t := 107) ?hr ?_; (case hd => rfl); (case hg => rfl); (case hr => first | (go_simp; done) | (go_simp; rfl)); intro gb103 hg w2 hbox hb; have n0_ := Aside0.mk (below_step (by repeat (first | (with_reducible first | exact HB.out | apply below_alloc | apply pw_below_drewN | apply below_drew1) | exact HB.out)) hb); have n1_ := Aside0.mk (hbox); have n2_ := Aside0.mk ((by rw [hg]; exact (below_size (by repeat (first | (with_reducible first | exact HB.out | apply below_alloc | apply pw_below_drewN | apply below_drew1) | exact HB.out))) : w.heap.size ≤ gb103)); have n3_ := Aside0.mk ((by rw [hg]; exact (below_size (by repeat (first | (with_reducible first | exact HB.out | apply below_alloc | apply pw_below_drewN | apply below_drew1) | exact HB.out))) : w.heap.size ≤ gb103)); clear HB; have HB := n0_; have BK103 := n1_; have GW103 := n2_; have GE103 := n3_; clear n0_ n1_ n2_ n3_; clear hb hbox hg; have hcz3_0 : w2.cell? ⟨gb103, 0, none⟩ = some (.int .i64 a0_0) := (blk_cell BK103.out 0).trans rfl; have hcz3_1 : w2.cell? ⟨gb103, 1, none⟩ = some (.int .i64 a0_1) := (blk_cell BK103.out 1).trans rfl; have hfz3_0 := blk_frozen BK103.out 0; have hfz3_1 := blk_frozen BK103.out 1))
 go_ret
 exact ⟨by first | rfl | (simp [errW_none, errW_some] <;> rfl) | (simp [*, errW_none, errW_some] <;> rfl), by repeat (first | (with_reducible first | exact HB.out | apply below_alloc | apply pw_below_drewN | apply below_drew1 | refine below_set ?_ GE103.out) | exact HB.out)⟩

/-! ### extent_Of: function 21 -/
def extent_Of.l0 : Nat → List (S107) → List Int → Int → Int → Option ((List (S107)) × Int)
 | 0, _, _, _, _ => none
 | k + 1, x5, x14, x15, x16 => if x16 < x15 then (if 0 ≤ x16 then (if x16 < (x14.length : Int) then (if (x5.length : Int) > 0 then (if 0 ≤ (wrap64 ((x5.length : Int) - 1)) then (if (wrap64 ((x5.length : Int) - 1)) < (x5.length : Int) then ((extent_Extent_end.f ((rd_T107 x5 (wrap64 ((x5.length : Int) - 1))).f0) ((rd_T107 x5 (wrap64 ((x5.length : Int) - 1))).f1)).bind fun t107 => (if t107 = (rd x14 x16) then (extent_Of.l0 k (x5.set ((wrap64 ((x5.length : Int) - 1)) : Int).toNat (⟨(rd_T107 x5 (wrap64 ((x5.length : Int) - 1))).f0, wrap64 (((rd_T107 x5 (wrap64 ((x5.length : Int) - 1))).f1) + 1)⟩ : S107)) x14 x15 (wrap64 (x16 + 1))) else (if x5.length < 8796093022208 then (extent_Of.l0 k (x5 ++ [(⟨rd x14 x16, 1⟩ : S107)]) x14 x15 (wrap64 (x16 + 1))) else (none)))) else (none)) else (none)) else (if x5.length < 8796093022208 then (extent_Of.l0 k (x5 ++ [(⟨rd x14 x16, 1⟩ : S107)]) x14 x15 (wrap64 (x16 + 1))) else (none))) else (none)) else (none)) else (some (x5, 0))
def extent_Of.f (k : Nat) (l0 : List Int) : Option ((List (S107)) × Int) := (extent_pages.f l0).bind fun t104 => (if t104 = 0 then (extent_Of.l0 k ([] : List (S107)) l0 (l0.length : Int) 0) else (some (([] : List (S107)), t104)))
theorem extent_Of.mono_l : ∀ k, (∀ y0 y1 y2 y3, LeO (extent_Of.l0 k y0 y1 y2 y3) (extent_Of.l0 (k + 1) y0 y1 y2 y3))
 | 0 => fun _ _ _ _ r h => by simp [extent_Of.l0] at h
 | k + 1 => by
  have ih0 := extent_Of.mono_l k
  ·intro y0 y1 y2 y3
   unfold extent_Of.l0
   repeat' first
   | (with_reducible exact ih0 _ _ _ _)
   | (with_reducible exact LeO.refl _)
   | (with_reducible exact LeO.none _)
   | (with_reducible refine LeO.ite ?_ ?_)
   | (with_reducible refine LeO.bind ?_ (fun _ => ?_))
   | exact ih0 _ _ _ _
   | exact LeO.none _
   | refine LeO.ite ?_ ?_
   | refine LeO.bind ?_ (fun _ => ?_)
theorem extent_Of.mono : ∀ a0 k, LeO (extent_Of.f k a0) (extent_Of.f (k + 1) a0) := by
 intro a0 k
 have ih0 := extent_Of.mono_l k
 unfold extent_Of.f
 repeat' first
   | (with_reducible exact ih0 _ _ _ _)
   | (with_reducible exact LeO.refl _)
   | (with_reducible exact LeO.none _)
   | (with_reducible refine LeO.ite ?_ ?_)
   | (with_reducible refine LeO.bind ?_ (fun _ => ?_))
   | exact ih0 _ _ _ _
   | exact LeO.none _
   | refine LeO.ite ?_ ?_
   | refine LeO.bind ?_ (fun _ => ?_)
set_option maxHeartbeats 8000000 in
set_option maxRecDepth 100000 in
theorem extent_Of.calls (k : Nat) (A0 : Option Addr) (c0 : Nat) (l0 : List Int) (r1 : List (S107)) (r2 : Int) (w : World) (hr0 : Kd.C (Kd.int .i64) w A0 l0.length l0) (hc0 : l0.length ≤ c0) (h : extent_Of.f k l0 = some (r1, r2)) :
  Calls Try.prog 21 #[.slice A0 l0.length c0] w fun e w' => ∃ v0_ : Value, e = .returned (.tuple #[v0_, .int .i64 r2]) ∧ Kd.R k107 107 w' w.heap.size (fun _ => True) v0_ r1 ∧ Below w.heap.size w w' := by
 have hu107 := Try.underlying107
 have HR0 := Aside0.mk hr0
 have HC0 := Aside0.mk hc0
 clear hr0 hc0
 have HB := Aside0.mk (Below.refl w.heap.size w)
 have H : ((extent_pages.f l0).bind fun t104 => (if t104 = 0 then (extent_Of.l0 k ([] : List (S107)) l0 (l0.length : Int) 0) else (some (([] : List (S107)), t104)))) = some (r1, r2) := h
 clear h
 replace H := Option.bind_eq_some_iff.mp H
 obtain ⟨t104, A20, H⟩ := H
 replace H : (if t104 = 0 then (extent_Of.l0 k ([] : List (S107)) l0 (l0.length : Int) 0) else (some (([] : List (S107)), t104))) = some (r1, r2) := H
 have A2 := Aside0.mk A20
 clear A20
 by_cases c3 : t104 = 0
 ·rw [if_pos c3] at H
  have c3b0 : (t104 == 0) = true := beq_iff_eq.mpr c3
  have c3b1 : (t104 != 0) = false := bne_eq_false_iff_eq.mpr c3
  clear c3
  have H' := Aside0.mk H
  clear H
  go_enter Try.func21, Try.ntmps21
  try go_wp2_with (first | ((with_reducible refine gate_callee (f := 73) rfl ?_); refine goesL_ (some 10) rfl rfl Try.func73 (by kernel_rfl) rfl #[.slice A0 l0.length c0] rfl (by (try simp only [List.map_toArray, List.map_cons, List.map_nil]); first | done | rfl | (simp only [List.length_drop, List.length_take]; rfl)) ?_; (with_reducible refine (extent_pages.calls _ _ l0 t104 _ ?side1 ?side2 A2.out).mono ?_); (case side1 => repeat (first | exact HR0.out | (with_reducible refine Kd.C_alloc ?_ _) | (with_reducible refine Kd.C_drewN ?_ _) | (with_reducible refine Kd.C_drew ?_))); (case side2 => exact HC0.out); rintro e w4 ⟨rfl, hb⟩; refine ⟨_, rfl, ?_⟩; have n0_ := Aside0.mk (below_step (by repeat (first | (with_reducible first | exact HB.out | apply below_alloc | apply pw_below_drewN | apply below_drew1) | exact HB.out)) hb); clear HB; have HB := n0_; clear n0_; (try clear hb); (try clear hb2); (try clear hk); (try clear hi)))
  repeat ((go_step3); try go_wp2_with (first | ((with_reducible refine gate_callee (f := 73) rfl ?_); refine goesL_ (some 10) rfl rfl Try.func73 (by kernel_rfl) rfl #[.slice A0 l0.length c0] rfl (by (try simp only [List.map_toArray, List.map_cons, List.map_nil]); first | done | rfl | (simp only [List.length_drop, List.length_take]; rfl)) ?_; (with_reducible refine (extent_pages.calls _ _ l0 t104 _ ?side1 ?side2 A2.out).mono ?_); (case side1 => repeat (first | exact HR0.out | (with_reducible refine Kd.C_alloc ?_ _) | (with_reducible refine Kd.C_drewN ?_ _) | (with_reducible refine Kd.C_drew ?_))); (case side2 => exact HC0.out); rintro e w4 ⟨rfl, hb⟩; refine ⟨_, rfl, ?_⟩; have n0_ := Aside0.mk (below_step (by repeat (first | (with_reducible first | exact HB.out | apply below_alloc | apply pw_below_drewN | apply below_drew1) | exact HB.out)) hb); clear HB; have HB := n0_; clear n0_; (try clear hb); (try clear hb2); (try clear hk); (try clear hi))))
  go_loopg [5, 16] k (fun kq v5 v16 w' => ∃ (x5_1 : List (S107)) (x16_1 : Int), v16 = .int .i64 x16_1 ∧ Aside0 (extent_Of.l0 kq x5_1 l0 (l0.length : Int) x16_1 = some (r1, r2)) ∧ Aside0 (kq ≤ k) ∧ Aside0 (Kd.R k107 107 w' w.heap.size (fun _ => True) v5 x5_1) ∧ Aside0 (Below w.heap.size w w'))
  case atStart => exact ⟨(([] : List (S107))), (0), (by first | rfl | (simp; done) | (simp [*]; done)), H', ⟨Nat.le_refl _⟩, ⟨by first | exact Kd.R_nil _ _ _ _ _ | exact Kd.N_nil _ _ _ _ _ | exact Kd.V_nil _ _ _ _ _ | exact Kd.Q_nil _ _ _ _ _ | exact Kd.S_nil _ _ _ _ _⟩, ⟨by repeat (first | (with_reducible first | exact HB.out | apply below_alloc | apply pw_below_drewN | apply below_drew1) | exact HB.out)⟩⟩
  case round =>
   clear H'
   try clear c2
   try clear p2
   try clear c3
   try clear c3b0
   try clear c3b1
   try clear p3
   obtain ⟨x5_1, x16_1, rfl, HA, HK1, HO_5, HB⟩ := hrel
   cases gk with
   | zero => exact absurd HA.out (by simp [extent_Of.l0])
   | succ k1 =>
    have H := HA.out
    clear HA
    simp only [extent_Of.l0] at H
    by_cases c5 : x16_1 < (l0.length : Int)
    ·rw [if_pos c5] at H
     have c5b0 : decide (x16_1 < (l0.length : Int)) = true := decide_eq_true c5
     clear c5
     by_cases c6 : 0 ≤ x16_1
     ·rw [if_pos c6] at H
      have c6b0 : decide (0 ≤ x16_1) = true := decide_eq_true c6
      clear c6
      by_cases c7 : x16_1 < (l0.length : Int)
      ·rw [if_pos c7] at H
       have c7b0 : decide (x16_1 < (l0.length : Int)) = true := decide_eq_true c7
       clear c7
       by_cases c8 : (x5_1.length : Int) > 0
       ·rw [if_pos c8] at H
        have c8b0 : decide (0 < (x5_1.length : Int)) = true := decide_eq_true c8
        have c8b1 : decide (0 < x5_1.length) = true := decide_eq_true (by omega)
        clear c8
        obtain ⟨ji9, hji9⟩ : ∃ j_ : Int, (wrap64 ((x5_1.length : Int) - 1)) = j_ := ⟨_, rfl⟩
        replace H : (if 0 ≤ (ji9) then (if (ji9) < (x5_1.length : Int) then ((extent_Extent_end.f ((rd_T107 x5_1 (ji9)).f0) ((rd_T107 x5_1 (ji9)).f1)).bind fun t107 => (if t107 = (rd l0 x16_1) then (extent_Of.l0 k1 (x5_1.set ((ji9) : Int).toNat (⟨(rd_T107 x5_1 (ji9)).f0, wrap64 (((rd_T107 x5_1 (ji9)).f1) + 1)⟩ : S107)) l0 (l0.length : Int) (wrap64 (x16_1 + 1))) else (if x5_1.length < 8796093022208 then (extent_Of.l0 k1 (x5_1 ++ [(⟨rd l0 x16_1, 1⟩ : S107)]) l0 (l0.length : Int) (wrap64 (x16_1 + 1))) else (none)))) else (none)) else (none)) = some (r1, r2) := by first | (rw [hji9] at H; exact H) | (simp only [hji9] at H ⊢; exact H)
        have hji9w : (IntKind.i64.wrap ((x5_1.length : Int) - 1)) = ji9 := (i64_w _).trans hji9
        by_cases c10 : 0 ≤ (ji9)
        ·rw [if_pos c10] at H
         have c10b0 : decide (0 ≤ (ji9)) = true := decide_eq_true c10
         clear c10
         by_cases c11 : (ji9) < (x5_1.length : Int)
         ·rw [if_pos c11] at H
          have c11b0 : decide ((ji9) < (x5_1.length : Int)) = true := decide_eq_true c11
          clear c11
          replace H := Option.bind_eq_some_iff.mp H
          obtain ⟨t107, A120, H⟩ := H
          replace H : (if t107 = (rd l0 x16_1) then (extent_Of.l0 k1 (x5_1.set ((ji9) : Int).toNat (⟨(rd_T107 x5_1 (ji9)).f0, wrap64 (((rd_T107 x5_1 (ji9)).f1) + 1)⟩ : S107)) l0 (l0.length : Int) (wrap64 (x16_1 + 1))) else (if x5_1.length < 8796093022208 then (extent_Of.l0 k1 (x5_1 ++ [(⟨rd l0 x16_1, 1⟩ : S107)]) l0 (l0.length : Int) (wrap64 (x16_1 + 1))) else (none))) = some (r1, r2) := H
          have A12 := Aside0.mk A120
          clear A120
          by_cases c13 : t107 = (rd l0 x16_1)
          ·rw [if_pos c13] at H
           have c13b0 : (t107 == (rd l0 x16_1)) = true := beq_iff_eq.mpr c13
           have c13b1 : (t107 != (rd l0 x16_1)) = false := bne_eq_false_iff_eq.mpr c13
           clear c13
           obtain ⟨y109, hy109⟩ : ∃ y_ : List (S107), y_ = (x5_1.set ((ji9) : Int).toNat (⟨(rd_T107 x5_1 (ji9)).f0, wrap64 (((rd_T107 x5_1 (ji9)).f1) + 1)⟩ : S107)) := ⟨_, rfl⟩
           replace H : (extent_Of.l0 k1 y109 l0 (l0.length : Int) (wrap64 (x16_1 + 1))) = some (r1, r2) := by first | (rw [hy109]; with_reducible exact H) | (have H2_ := (Option.bind_some _ _).symm.trans H; rw [hy109]; with_reducible exact H2_) | (have H2_ := (Option.bind_some _ _).symm.trans H; with_reducible exact H2_) | with_reducible exact H | (rw [hy109]; exact H) | exact H
           have Ny109 := Aside0.mk hy109
           clear hy109
           have H' := Aside0.mk H
           clear H
           have p105 : 0 ≤ (x16_1 : Int) := of_decide_eq_true (by first | (with_reducible assumption) | assumption)
           have q105 : x16_1 < (l0.length : Int) := of_decide_eq_true (by first | (with_reducible assumption) | assumption)
           obtain ⟨ad105, e105, hx105_0⟩ := Kd.at_int HR0.out x16_1 p105 q105
           cases e105
           replace hx105_0 := (HB.out.cell (World.block_lt_of_cell? w _ hx105_0)).trans hx105_0
           replace p105 := eq_true p105
           replace q105 := eq_true q105
           obtain ⟨Ao15, co15, eo15⟩ := Kd.R_slice HO_5.out
           subst eo15
           have p106 : 0 ≤ ((ji9) : Int) := of_decide_eq_true (by first | (with_reducible assumption) | assumption)
           have q106 : (ji9) < (x5_1.length : Int) := of_decide_eq_true (by first | (with_reducible assumption) | assumption)
           obtain ⟨ad106, e106, hx106_0, hx106_1⟩ := at_T107 (Kd.R_reads' HO_5.out).2.2 (ji9) p106 q106
           cases e106
           replace p106 := eq_true p106
           replace q106 := eq_true q106
           try go_wp2_with (first | (go_at_call 74; (with_reducible refine (extent_Extent_end.calls ((rd_T107 x5_1 (ji9)).f0) ((rd_T107 x5_1 (ji9)).f1) t107 _ A12.out).mono ?_); rintro e w16 ⟨rfl, hb⟩; have n0_ := Aside0.mk (Kd.R_below (by (with_reducible repeat (first | apply Kd.R_alloc | apply Kd.R_drewN | apply Kd.R_drew)); exact HO_5.out) hb); have n1_ := Aside0.mk (below_step (by repeat (first | (with_reducible first | exact HB.out | apply below_alloc | apply pw_below_drewN | apply below_drew1) | exact HB.out)) hb); clear HO_5; clear HB; have HO_5 := n0_; have HB := n1_; clear n0_ n1_; (try clear hb); (try clear hb2); (try clear hk); (try clear hi); have p108 : 0 ≤ ((ji9) : Int) := of_decide_eq_true (by first | (with_reducible assumption) | assumption); have q108 : (ji9) < (x5_1.length : Int) := of_decide_eq_true (by first | (with_reducible assumption) | assumption); obtain ⟨ad108, e108, hx108_0, hx108_1⟩ := at_T107 (Kd.R_reads' HO_5.out).2.2 (ji9) p108 q108; obtain rfl : ad106 = ad108 := (by injection e108); replace p108 := eq_true p108; replace q108 := eq_true q108; have p14 : 0 ≤ ((ji9) : Int) := of_decide_eq_true (by first | (with_reducible assumption) | assumption); have q14 : ((ji9) : Int) < ((x5_1.length : Int) : Int) := of_decide_eq_true (by first | (with_reducible assumption) | assumption); obtain ⟨go14, co14, eo14, gb14, gl14, cl14, HG14⟩ := Kd.R_form HO_5.out (by omega); (first | cases eo14 | (injection eo14 with ea_ en_ ec_; (first | subst ea_ | (injection ea_ with ea_; subst ea_)); subst ec_; clear en_)); have GB14 := Aside0.mk gb14; have GG14 := Aside0.mk HG14; clear gb14 gl14 HG14; (first | simp only [add_plain] at hx106_0 | skip); (first | simp only [add_plain] at hx106_1 | skip); (first | simp only [add_plain] at hx108_0 | skip); (first | simp only [add_plain] at hx108_1 | skip); obtain ⟨ce14, hcl14, hM14, hcc14, hfr14⟩ := Kd.R_elem HO_5.out z107 ((ji9) : Int) p14 q14; obtain rfl := k107_openM hM14; have hx14_0 : w16.cell? ⟨go14, ((ji9) : Int).toNat * 2, none⟩ = some (.int .i64 ((rd_T107 x5_1 (ji9)).f0)) := hcc14 0 _ rfl; have hx14_1 : w16.cell? ⟨go14, ((ji9) : Int).toNat * 2 + 1, none⟩ = some (.int .i64 ((rd_T107 x5_1 (ji9)).f1)) := hcc14 1 _ rfl; have hf14_0 : w16.frozen? ⟨go14, ((ji9) : Int).toNat * 2, none⟩ = false := hfr14 0; have hf14_1 : w16.frozen? ⟨go14, ((ji9) : Int).toNat * 2 + 1, none⟩ = false := hfr14 1; clear hcl14 hcc14 hfr14 hM14; replace p14 := eq_true p14; replace q14 := eq_true q14; have HX17 := Aside0.mk (show Kd.R k107 107 w16 w.heap.size (fun _ => True) (.slice (some ⟨go14, 0, none⟩) x5_1.length co15) x5_1 from (by (with_reducible repeat (first | apply Kd.R_alloc | apply Kd.R_drewN | apply Kd.R_drew)); exact HO_5.out)); obtain ⟨ce17, hcl17, hM17, hcc17, hfr17⟩ := Kd.R_elem HX17.out z107 ((ji9) : Int) (of_decide_eq_true (by first | (with_reducible assumption) | assumption)) (by have h_ : ((ji9) : Int) < ((x5_1.length : Int) : Int) := of_decide_eq_true (by first | (with_reducible assumption) | assumption); first | exact h_ | (have e_ := (Kd.R_reads' HO_5.out).1; omega) | simpa using h_); obtain rfl := k107_openM hM17; have HP17 := Kd.R_seg HX17.out ((ji9) : Int) (of_decide_eq_true (by first | (with_reducible assumption) | assumption)) (by have h_ : ((ji9) : Int) < ((x5_1.length : Int) : Int) := of_decide_eq_true (by first | (with_reducible assumption) | assumption); first | exact h_ | (have e_ := (Kd.R_reads' HO_5.out).1; omega) | simpa using h_) (seg := [.int .i64 (wrap64 (((rd_T107 x5_1 (ji9)).f1) + 1))]) (j := 1) hcl17 hcc17 (show 2 ≤ 2 from by decide) (x' := (⟨(rd_T107 x5_1 (ji9)).f0, wrap64 (((rd_T107 x5_1 (ji9)).f1) + 1)⟩ : S107)) (k107_mkM _ _ _ (⟨(rd_T107 x5_1 (ji9)).f0, wrap64 (((rd_T107 x5_1 (ji9)).f1) + 1)⟩ : S107) ) (fun _ hk => hk); have hx17_1 := hcc17 1 _ rfl; (try simp only [show (k107).sz = 2 from rfl, Nat.mul_one, Nat.add_zero] at hx17_1); have hf17_1 := hfr17 1; (try simp only [show (k107).sz = 2 from rfl, Nat.mul_one, Nat.add_zero] at hf17_1); clear hcl17 hcc17 hfr17 hM17) | ((with_reducible refine gate_store (t := 3) (p := 42) rfl ?_); refine store_event (t := 3) (p := 42) (v := ?vo_w18) (w1 := (w16.setCell ⟨go14, ((ji9) : Int).toNat * 2 + 1, none⟩ (.int .i64 (wrap64 (((rd_T107 x5_1 (ji9)).f1) + 1))))) ?hg ?ho ?hn ?hr ?_; (case ho => rfl); (case hg => rfl); (case hn => rfl); (case hr => first | (go_simp; done) | (go_simp; rfl)); intro w18 hw; have hg : w16.grownBy w18 (some go14) := (by rw [hw]; exact HP17.2); have hp_ : Kd.R k107 107 w18 w.heap.size (fun _ => True) (.slice (some ⟨go14, 0, none⟩) x5_1.length co15) y109 := (by rw [hw, Ny109.out]; exact HP17.1); clear HP17; have n0_ := Aside0.mk (hp_); have n1_ := Aside0.mk ((by rw [hw]; exact below_set (HB.out) GB14.out : Below w.heap.size w w18)); clear HO_5; clear HB; have HO_5 := n0_; have HB := n1_; clear n0_ n1_; clear hg hw hp_))
           repeat ((go_step3); try go_wp2_with (first | (go_at_call 74; (with_reducible refine (extent_Extent_end.calls ((rd_T107 x5_1 (ji9)).f0) ((rd_T107 x5_1 (ji9)).f1) t107 _ A12.out).mono ?_); rintro e w16 ⟨rfl, hb⟩; have n0_ := Aside0.mk (Kd.R_below (by (with_reducible repeat (first | apply Kd.R_alloc | apply Kd.R_drewN | apply Kd.R_drew)); exact HO_5.out) hb); have n1_ := Aside0.mk (below_step (by repeat (first | (with_reducible first | exact HB.out | apply below_alloc | apply pw_below_drewN | apply below_drew1) | exact HB.out)) hb); clear HO_5; clear HB; have HO_5 := n0_; have HB := n1_; clear n0_ n1_; (try clear hb); (try clear hb2); (try clear hk); (try clear hi); have p108 : 0 ≤ ((ji9) : Int) := of_decide_eq_true (by first | (with_reducible assumption) | assumption); have q108 : (ji9) < (x5_1.length : Int) := of_decide_eq_true (by first | (with_reducible assumption) | assumption); obtain ⟨ad108, e108, hx108_0, hx108_1⟩ := at_T107 (Kd.R_reads' HO_5.out).2.2 (ji9) p108 q108; obtain rfl : ad106 = ad108 := (by injection e108); replace p108 := eq_true p108; replace q108 := eq_true q108; have p14 : 0 ≤ ((ji9) : Int) := of_decide_eq_true (by first | (with_reducible assumption) | assumption); have q14 : ((ji9) : Int) < ((x5_1.length : Int) : Int) := of_decide_eq_true (by first | (with_reducible assumption) | assumption); obtain ⟨go14, co14, eo14, gb14, gl14, cl14, HG14⟩ := Kd.R_form HO_5.out (by omega); (first | cases eo14 | (injection eo14 with ea_ en_ ec_; (first | subst ea_ | (injection ea_ with ea_; subst ea_)); subst ec_; clear en_)); have GB14 := Aside0.mk gb14; have GG14 := Aside0.mk HG14; clear gb14 gl14 HG14; (first | simp only [add_plain] at hx106_0 | skip); (first | simp only [add_plain] at hx106_1 | skip); (first | simp only [add_plain] at hx108_0 | skip); (first | simp only [add_plain] at hx108_1 | skip); obtain ⟨ce14, hcl14, hM14, hcc14, hfr14⟩ := Kd.R_elem HO_5.out z107 ((ji9) : Int) p14 q14; obtain rfl := k107_openM hM14; have hx14_0 : w16.cell? ⟨go14, ((ji9) : Int).toNat * 2, none⟩ = some (.int .i64 ((rd_T107 x5_1 (ji9)).f0)) := hcc14 0 _ rfl; have hx14_1 : w16.cell? ⟨go14, ((ji9) : Int).toNat * 2 + 1, none⟩ = some (.int .i64 ((rd_T107 x5_1 (ji9)).f1)) := hcc14 1 _ rfl; have hf14_0 : w16.frozen? ⟨go14, ((ji9) : Int).toNat * 2, none⟩ = false := hfr14 0; have hf14_1 : w16.frozen? ⟨go14, ((ji9) : Int).toNat * 2 + 1, none⟩ = false := hfr14 1; clear hcl14 hcc14 hfr14 hM14; replace p14 := eq_true p14; replace q14 := eq_true q14; have HX17 := Aside0.mk (show Kd.R k107 107 w16 w.heap.size (fun _ => True) (.slice (some ⟨go14, 0, none⟩) x5_1.length co15) x5_1 from (by (with_reducible repeat (first | apply Kd.R_alloc | apply Kd.R_drewN | apply Kd.R_drew)); exact HO_5.out)); obtain ⟨ce17, hcl17, hM17, hcc17, hfr17⟩ := Kd.R_elem HX17.out z107 ((ji9) : Int) (of_decide_eq_true (by first | (with_reducible assumption) | assumption)) (by have h_ : ((ji9) : Int) < ((x5_1.length : Int) : Int) := of_decide_eq_true (by first | (with_reducible assumption) | assumption); first | exact h_ | (have e_ := (Kd.R_reads' HO_5.out).1; omega) | simpa using h_); obtain rfl := k107_openM hM17; have HP17 := Kd.R_seg HX17.out ((ji9) : Int) (of_decide_eq_true (by first | (with_reducible assumption) | assumption)) (by have h_ : ((ji9) : Int) < ((x5_1.length : Int) : Int) := of_decide_eq_true (by first | (with_reducible assumption) | assumption); first | exact h_ | (have e_ := (Kd.R_reads' HO_5.out).1; omega) | simpa using h_) (seg := [.int .i64 (wrap64 (((rd_T107 x5_1 (ji9)).f1) + 1))]) (j := 1) hcl17 hcc17 (show 2 ≤ 2 from by decide) (x' := (⟨(rd_T107 x5_1 (ji9)).f0, wrap64 (((rd_T107 x5_1 (ji9)).f1) + 1)⟩ : S107)) (k107_mkM _ _ _ (⟨(rd_T107 x5_1 (ji9)).f0, wrap64 (((rd_T107 x5_1 (ji9)).f1) + 1)⟩ : S107) ) (fun _ hk => hk); have hx17_1 := hcc17 1 _ rfl; (try simp only [show (k107).sz = 2 from rfl, Nat.mul_one, Nat.add_zero] at hx17_1); have hf17_1 := hfr17 1; (try simp only [show (k107).sz = 2 from rfl, Nat.mul_one, Nat.add_zero] at hf17_1); clear hcl17 hcc17 hfr17 hM17) | ((with_reducible refine gate_store (t := 3) (p := 42) rfl ?_); refine store_event (t := 3) (p := 42) (v := ?vo_w18) (w1 := (w16.setCell ⟨go14, ((ji9) : Int).toNat * 2 + 1, none⟩ (.int .i64 (wrap64 (((rd_T107 x5_1 (ji9)).f1) + 1))))) ?hg ?ho ?hn ?hr ?_; (case ho => rfl); (case hg => rfl); (case hn => rfl); (case hr => first | (go_simp; done) | (go_simp; rfl)); intro w18 hw; have hg : w16.grownBy w18 (some go14) := (by rw [hw]; exact HP17.2); have hp_ : Kd.R k107 107 w18 w.heap.size (fun _ => True) (.slice (some ⟨go14, 0, none⟩) x5_1.length co15) y109 := (by rw [hw, Ny109.out]; exact HP17.1); clear HP17; have n0_ := Aside0.mk (hp_); have n1_ := Aside0.mk ((by rw [hw]; exact below_set (HB.out) GB14.out : Below w.heap.size w w18)); clear HO_5; clear HB; have HO_5 := n0_; have HB := n1_; clear n0_ n1_; clear hg hw hp_)))
           go_roundg k1
           case measure => have := HK1.out; omega
           case rel => exact ⟨(y109), (wrap64 (x16_1 + 1)), (by first | rfl | (simp; done) | (simp [*]; done)), H', ⟨by have := HK1.out; omega⟩, ⟨by (with_reducible repeat (first | apply Kd.R_alloc | apply Kd.R_drewN | apply Kd.R_drew)); exact HO_5.out⟩, ⟨by repeat (first | (with_reducible first | exact HB.out | apply below_alloc | apply pw_below_drewN | apply below_drew1) | exact HB.out)⟩⟩
          ·rw [if_neg c13] at H
           have c13b0 : (t107 == (rd l0 x16_1)) = false := beq_eq_false_iff_ne.mpr c13
           have c13b1 : (t107 != (rd l0 x16_1)) = true := bne_iff_ne.mpr c13
           by_cases c19 : x5_1.length < 8796093022208
           ·rw [if_pos c19] at H
            have LMc19 := Aside0.mk c19
            clear c19
            obtain ⟨y110, hy110⟩ : ∃ y_ : List (S107), y_ = (x5_1 ++ [(⟨rd l0 x16_1, 1⟩ : S107)]) := ⟨_, rfl⟩
            replace H : (extent_Of.l0 k1 y110 l0 (l0.length : Int) (wrap64 (x16_1 + 1))) = some (r1, r2) := by first | (rw [hy110]; with_reducible exact H) | (have H2_ := (Option.bind_some _ _).symm.trans H; rw [hy110]; with_reducible exact H2_) | (have H2_ := (Option.bind_some _ _).symm.trans H; with_reducible exact H2_) | with_reducible exact H | (rw [hy110]; exact H) | exact H
            have Ny110 := Aside0.mk hy110
            clear hy110
            have H' := Aside0.mk H
            clear H
            have p105 : 0 ≤ (x16_1 : Int) := of_decide_eq_true (by first | (with_reducible assumption) | assumption)
            have q105 : x16_1 < (l0.length : Int) := of_decide_eq_true (by first | (with_reducible assumption) | assumption)
            obtain ⟨ad105, e105, hx105_0⟩ := Kd.at_int HR0.out x16_1 p105 q105
            cases e105
            replace hx105_0 := (HB.out.cell (World.block_lt_of_cell? w _ hx105_0)).trans hx105_0
            replace p105 := eq_true p105
            replace q105 := eq_true q105
            obtain ⟨Ao20, co20, eo20⟩ := Kd.R_slice HO_5.out
            subst eo20
            have p106 : 0 ≤ ((ji9) : Int) := of_decide_eq_true (by first | (with_reducible assumption) | assumption)
            have q106 : (ji9) < (x5_1.length : Int) := of_decide_eq_true (by first | (with_reducible assumption) | assumption)
            obtain ⟨ad106, e106, hx106_0, hx106_1⟩ := at_T107 (Kd.R_reads' HO_5.out).2.2 (ji9) p106 q106
            cases e106
            replace p106 := eq_true p106
            replace q106 := eq_true q106
            try go_wp2_with (first | (go_at_call 74; (with_reducible refine (extent_Extent_end.calls ((rd_T107 x5_1 (ji9)).f0) ((rd_T107 x5_1 (ji9)).f1) t107 _ A12.out).mono ?_); rintro e w21 ⟨rfl, hb⟩; have n0_ := Aside0.mk (Kd.R_below (by (with_reducible repeat (first | apply Kd.R_alloc | apply Kd.R_drewN | apply Kd.R_drew)); exact HO_5.out) hb); have n1_ := Aside0.mk (below_step (by repeat (first | (with_reducible first | exact HB.out | apply below_alloc | apply pw_below_drewN | apply below_drew1) | exact HB.out)) hb); clear HO_5; clear HB; have HO_5 := n0_; have HB := n1_; clear n0_ n1_; (try clear hb); (try clear hb2); (try clear hk); (try clear hi)) | ((with_reducible refine gate_builtin (b := .append) (xs := #[.tmp 43, .tmp 46]) rfl ?_); at_builtin; refine Kd.R_append k107 (w0 := w) w.heap.size rfl (.tmp 43) (.tmp 46) 37 107 (.agg #[(.int .i64 0), (.int .i64 0)]) 16 rfl Try.underlying37 info107 rfl (by decide) (by omega) (.slice (some ad106) x5_1.length co20) x5_1 (⟨rd l0 x16_1, 1⟩ : S107) [.int .i64 (rd l0 x16_1), .int .i64 1] (fun _ => True) (fun _ => False) rfl rfl ?aP (fun _ hk => hk.elim) ?aF ?aO ?aB ?aS ?aL ?_; (case aP => exact k107_mkM _ _ _ (⟨rd l0 x16_1, 1⟩ : S107)); (case aB => exact (by repeat (first | (with_reducible first | exact HB.out | apply below_alloc | apply pw_below_drewN | apply below_drew1) | exact HB.out))); (case aF => exact (fun _ _ => trivial)); (case aO => exact (by (with_reducible repeat (first | apply Kd.R_alloc | apply Kd.R_drewN | apply Kd.R_drew)); exact HO_5.out)); (case aS => exact (below_size (by repeat (first | (with_reducible first | exact HB.out | apply below_alloc | apply pw_below_drewN | apply below_drew1) | exact HB.out)))); (case aL => have := LMc19.out; omega); intro v111 w22 ho hb hg hat; rw [← Ny110.out] at ho; have n0_ := Aside0.mk (hb); have n1_ := Aside0.mk (ho); clear HB; clear HO_5; have HB := n0_; have HO112 := n1_; clear n0_ n1_; clear ho hb hg hat))
            repeat ((go_step3); try go_wp2_with (first | (go_at_call 74; (with_reducible refine (extent_Extent_end.calls ((rd_T107 x5_1 (ji9)).f0) ((rd_T107 x5_1 (ji9)).f1) t107 _ A12.out).mono ?_); rintro e w21 ⟨rfl, hb⟩; have n0_ := Aside0.mk (Kd.R_below (by (with_reducible repeat (first | apply Kd.R_alloc | apply Kd.R_drewN | apply Kd.R_drew)); exact HO_5.out) hb); have n1_ := Aside0.mk (below_step (by repeat (first | (with_reducible first | exact HB.out | apply below_alloc | apply pw_below_drewN | apply below_drew1) | exact HB.out)) hb); clear HO_5; clear HB; have HO_5 := n0_; have HB := n1_; clear n0_ n1_; (try clear hb); (try clear hb2); (try clear hk); (try clear hi)) | ((with_reducible refine gate_builtin (b := .append) (xs := #[.tmp 43, .tmp 46]) rfl ?_); at_builtin; refine Kd.R_append k107 (w0 := w) w.heap.size rfl (.tmp 43) (.tmp 46) 37 107 (.agg #[(.int .i64 0), (.int .i64 0)]) 16 rfl Try.underlying37 info107 rfl (by decide) (by omega) (.slice (some ad106) x5_1.length co20) x5_1 (⟨rd l0 x16_1, 1⟩ : S107) [.int .i64 (rd l0 x16_1), .int .i64 1] (fun _ => True) (fun _ => False) rfl rfl ?aP (fun _ hk => hk.elim) ?aF ?aO ?aB ?aS ?aL ?_; (case aP => exact k107_mkM _ _ _ (⟨rd l0 x16_1, 1⟩ : S107)); (case aB => exact (by repeat (first | (with_reducible first | exact HB.out | apply below_alloc | apply pw_below_drewN | apply below_drew1) | exact HB.out))); (case aF => exact (fun _ _ => trivial)); (case aO => exact (by (with_reducible repeat (first | apply Kd.R_alloc | apply Kd.R_drewN | apply Kd.R_drew)); exact HO_5.out)); (case aS => exact (below_size (by repeat (first | (with_reducible first | exact HB.out | apply below_alloc | apply pw_below_drewN | apply below_drew1) | exact HB.out)))); (case aL => have := LMc19.out; omega); intro v111 w22 ho hb hg hat; rw [← Ny110.out] at ho; have n0_ := Aside0.mk (hb); have n1_ := Aside0.mk (ho); clear HB; clear HO_5; have HB := n0_; have HO112 := n1_; clear n0_ n1_; clear ho hb hg hat)))
            go_roundg k1
            case measure => have := HK1.out; omega
            case rel => exact ⟨(y110), (wrap64 (x16_1 + 1)), (by first | rfl | (simp; done) | (simp [*]; done)), H', ⟨by have := HK1.out; omega⟩, ⟨by (with_reducible repeat (first | apply Kd.R_alloc | apply Kd.R_drewN | apply Kd.R_drew)); exact HO112.out⟩, ⟨by repeat (first | (with_reducible first | exact HB.out | apply below_alloc | apply pw_below_drewN | apply below_drew1) | exact HB.out)⟩⟩
           ·rw [if_neg c19] at H
            exact absurd H (by simp)
         ·rw [if_neg c11] at H
          exact absurd H (by simp)
        ·rw [if_neg c10] at H
         exact absurd H (by simp)
       ·rw [if_neg c8] at H
        have c8b0 : decide (0 < (x5_1.length : Int)) = false := decide_eq_false c8
        have c8b1 : decide (0 < x5_1.length) = false := decide_eq_false (by omega)
        clear c8
        by_cases c23 : x5_1.length < 8796093022208
        ·rw [if_pos c23] at H
         have LMc23 := Aside0.mk c23
         clear c23
         obtain ⟨y113, hy113⟩ : ∃ y_ : List (S107), y_ = (x5_1 ++ [(⟨rd l0 x16_1, 1⟩ : S107)]) := ⟨_, rfl⟩
         replace H : (extent_Of.l0 k1 y113 l0 (l0.length : Int) (wrap64 (x16_1 + 1))) = some (r1, r2) := by first | (rw [hy113]; with_reducible exact H) | (have H2_ := (Option.bind_some _ _).symm.trans H; rw [hy113]; with_reducible exact H2_) | (have H2_ := (Option.bind_some _ _).symm.trans H; with_reducible exact H2_) | with_reducible exact H | (rw [hy113]; exact H) | exact H
         have Ny113 := Aside0.mk hy113
         clear hy113
         have H' := Aside0.mk H
         clear H
         have p105 : 0 ≤ (x16_1 : Int) := of_decide_eq_true (by first | (with_reducible assumption) | assumption)
         have q105 : x16_1 < (l0.length : Int) := of_decide_eq_true (by first | (with_reducible assumption) | assumption)
         obtain ⟨ad105, e105, hx105_0⟩ := Kd.at_int HR0.out x16_1 p105 q105
         cases e105
         replace hx105_0 := (HB.out.cell (World.block_lt_of_cell? w _ hx105_0)).trans hx105_0
         replace p105 := eq_true p105
         replace q105 := eq_true q105
         obtain ⟨Ao24, co24, eo24⟩ := Kd.R_slice HO_5.out
         subst eo24
         try go_wp2_with (first | ((with_reducible refine gate_builtin (b := .append) (xs := #[.tmp 43, .tmp 46]) rfl ?_); at_builtin; refine Kd.R_append k107 (w0 := w) w.heap.size rfl (.tmp 43) (.tmp 46) 37 107 (.agg #[(.int .i64 0), (.int .i64 0)]) 16 rfl Try.underlying37 info107 rfl (by decide) (by omega) (.slice Ao24 x5_1.length co24) x5_1 (⟨rd l0 x16_1, 1⟩ : S107) [.int .i64 (rd l0 x16_1), .int .i64 1] (fun _ => True) (fun _ => False) rfl rfl ?aP (fun _ hk => hk.elim) ?aF ?aO ?aB ?aS ?aL ?_; (case aP => exact k107_mkM _ _ _ (⟨rd l0 x16_1, 1⟩ : S107)); (case aB => exact (by repeat (first | (with_reducible first | exact HB.out | apply below_alloc | apply pw_below_drewN | apply below_drew1) | exact HB.out))); (case aF => exact (fun _ _ => trivial)); (case aO => exact (by (with_reducible repeat (first | apply Kd.R_alloc | apply Kd.R_drewN | apply Kd.R_drew)); exact HO_5.out)); (case aS => exact (below_size (by repeat (first | (with_reducible first | exact HB.out | apply below_alloc | apply pw_below_drewN | apply below_drew1) | exact HB.out)))); (case aL => have := LMc23.out; omega); intro v114 w25 ho hb hg hat; rw [← Ny113.out] at ho; have n0_ := Aside0.mk (hb); have n1_ := Aside0.mk (ho); clear HB; clear HO_5; have HB := n0_; have HO115 := n1_; clear n0_ n1_; clear ho hb hg hat))
         repeat ((go_step3); try go_wp2_with (first | ((with_reducible refine gate_builtin (b := .append) (xs := #[.tmp 43, .tmp 46]) rfl ?_); at_builtin; refine Kd.R_append k107 (w0 := w) w.heap.size rfl (.tmp 43) (.tmp 46) 37 107 (.agg #[(.int .i64 0), (.int .i64 0)]) 16 rfl Try.underlying37 info107 rfl (by decide) (by omega) (.slice Ao24 x5_1.length co24) x5_1 (⟨rd l0 x16_1, 1⟩ : S107) [.int .i64 (rd l0 x16_1), .int .i64 1] (fun _ => True) (fun _ => False) rfl rfl ?aP (fun _ hk => hk.elim) ?aF ?aO ?aB ?aS ?aL ?_; (case aP => exact k107_mkM _ _ _ (⟨rd l0 x16_1, 1⟩ : S107)); (case aB => exact (by repeat (first | (with_reducible first | exact HB.out | apply below_alloc | apply pw_below_drewN | apply below_drew1) | exact HB.out))); (case aF => exact (fun _ _ => trivial)); (case aO => exact (by (with_reducible repeat (first | apply Kd.R_alloc | apply Kd.R_drewN | apply Kd.R_drew)); exact HO_5.out)); (case aS => exact (below_size (by repeat (first | (with_reducible first | exact HB.out | apply below_alloc | apply pw_below_drewN | apply below_drew1) | exact HB.out)))); (case aL => have := LMc23.out; omega); intro v114 w25 ho hb hg hat; rw [← Ny113.out] at ho; have n0_ := Aside0.mk (hb); have n1_ := Aside0.mk (ho); clear HB; clear HO_5; have HB := n0_; have HO115 := n1_; clear n0_ n1_; clear ho hb hg hat)))
         go_roundg k1
         case measure => have := HK1.out; omega
         case rel => exact ⟨(y113), (wrap64 (x16_1 + 1)), (by first | rfl | (simp; done) | (simp [*]; done)), H', ⟨by have := HK1.out; omega⟩, ⟨by (with_reducible repeat (first | apply Kd.R_alloc | apply Kd.R_drewN | apply Kd.R_drew)); exact HO115.out⟩, ⟨by repeat (first | (with_reducible first | exact HB.out | apply below_alloc | apply pw_below_drewN | apply below_drew1) | exact HB.out)⟩⟩
        ·rw [if_neg c23] at H
         exact absurd H (by simp)
      ·rw [if_neg c7] at H
       exact absurd H (by simp)
     ·rw [if_neg c6] at H
      exact absurd H (by simp)
    ·rw [if_neg c5] at H
     have c5b0 : decide (x16_1 < (l0.length : Int)) = false := decide_eq_false c5
     clear c5
     simp only [Option.some.injEq, Prod.mk.injEq] at H
     obtain ⟨rfl, rfl⟩ := H
     try go_wp2_with (fail)
     repeat ((go_step3); try go_wp2_with (fail))
     (try rw [Exit.noGoto_ret])
     go_ret2
     exact ⟨_, by first | rfl | (simp [errW_none, errW_some] <;> rfl) | (simp [*, errW_none, errW_some] <;> rfl), by (with_reducible repeat (first | apply Kd.R_alloc | apply Kd.R_drewN | apply Kd.R_drew)); exact HO_5.out, by repeat (first | (with_reducible first | exact HB.out | apply below_alloc | apply pw_below_drewN | apply below_drew1) | exact HB.out)⟩
 ·rw [if_neg c3] at H
  have c3b0 : (t104 == 0) = false := beq_eq_false_iff_ne.mpr c3
  have c3b1 : (t104 != 0) = true := bne_iff_ne.mpr c3
  simp only [Option.some.injEq, Prod.mk.injEq] at H
  obtain ⟨rfl, rfl⟩ := H
  go_enter Try.func21, Try.ntmps21
  try go_wp2_with (first | ((with_reducible refine gate_callee (f := 73) rfl ?_); refine goesL_ (some 10) rfl rfl Try.func73 (by kernel_rfl) rfl #[.slice A0 l0.length c0] rfl (by (try simp only [List.map_toArray, List.map_cons, List.map_nil]); first | done | rfl | (simp only [List.length_drop, List.length_take]; rfl)) ?_; (with_reducible refine (extent_pages.calls _ _ l0 t104 _ ?side1 ?side2 A2.out).mono ?_); (case side1 => repeat (first | exact HR0.out | (with_reducible refine Kd.C_alloc ?_ _) | (with_reducible refine Kd.C_drewN ?_ _) | (with_reducible refine Kd.C_drew ?_))); (case side2 => exact HC0.out); rintro e w26 ⟨rfl, hb⟩; refine ⟨_, rfl, ?_⟩; have n0_ := Aside0.mk (below_step (by repeat (first | (with_reducible first | exact HB.out | apply below_alloc | apply pw_below_drewN | apply below_drew1) | exact HB.out)) hb); clear HB; have HB := n0_; clear n0_; (try clear hb); (try clear hb2); (try clear hk); (try clear hi)))
  repeat ((go_step3); try go_wp2_with (first | ((with_reducible refine gate_callee (f := 73) rfl ?_); refine goesL_ (some 10) rfl rfl Try.func73 (by kernel_rfl) rfl #[.slice A0 l0.length c0] rfl (by (try simp only [List.map_toArray, List.map_cons, List.map_nil]); first | done | rfl | (simp only [List.length_drop, List.length_take]; rfl)) ?_; (with_reducible refine (extent_pages.calls _ _ l0 t104 _ ?side1 ?side2 A2.out).mono ?_); (case side1 => repeat (first | exact HR0.out | (with_reducible refine Kd.C_alloc ?_ _) | (with_reducible refine Kd.C_drewN ?_ _) | (with_reducible refine Kd.C_drew ?_))); (case side2 => exact HC0.out); rintro e w26 ⟨rfl, hb⟩; refine ⟨_, rfl, ?_⟩; have n0_ := Aside0.mk (below_step (by repeat (first | (with_reducible first | exact HB.out | apply below_alloc | apply pw_below_drewN | apply below_drew1) | exact HB.out)) hb); clear HB; have HB := n0_; clear n0_; (try clear hb); (try clear hb2); (try clear hk); (try clear hi))))
  (try rw [Exit.noGoto_ret])
  go_ret2
  exact ⟨_, by first | rfl | (simp [errW_none, errW_some] <;> rfl) | (simp [*, errW_none, errW_some] <;> rfl), by first | exact Kd.R_nil _ _ _ _ _ | exact Kd.N_nil _ _ _ _ _ | exact Kd.V_nil _ _ _ _ _ | exact Kd.Q_nil _ _ _ _ _ | exact Kd.S_nil _ _ _ _ _, by repeat (first | (with_reducible first | exact HB.out | apply below_alloc | apply pw_below_drewN | apply below_drew1) | exact HB.out)⟩

/-! ### incipitref08_Twice: function 75 -/
def incipitref08_Twice.l0 : Nat → List Int → List Bool → Int → Option (Bool)
 | 0, _, _, _ => none
 | k + 1, x0, x3, x4 => if x4 < (x0.length : Int) then (if 0 ≤ x4 then (if 0 ≤ (rd x0 x4) then (if (rd x0 x4) < (x3.length : Int) then (if rdOf false x3 (rd x0 x4) = true then (some true) else (incipitref08_Twice.l0 k x0 (x3.set ((rd x0 x4) : Int).toNat true) (wrap64 (x4 + 1)))) else (none)) else (none)) else (none)) else (some false)
def incipitref08_Twice.f (k : Nat) (l0 : List Int) : Option (Bool) := if 2048 ≤ 281474976710656 then (incipitref08_Twice.l0 k l0 (List.replicate 2048 false) 0) else (none)
theorem incipitref08_Twice.mono_l : ∀ k, (∀ y0 y1 y2, LeO (incipitref08_Twice.l0 k y0 y1 y2) (incipitref08_Twice.l0 (k + 1) y0 y1 y2))
 | 0 => fun _ _ _ r h => by simp [incipitref08_Twice.l0] at h
 | k + 1 => by
  have ih0 := incipitref08_Twice.mono_l k
  ·intro y0 y1 y2
   unfold incipitref08_Twice.l0
   repeat' first
   | (with_reducible exact ih0 _ _ _)
   | (with_reducible exact LeO.refl _)
   | (with_reducible exact LeO.none _)
   | (with_reducible refine LeO.ite ?_ ?_)
   | (with_reducible refine LeO.bind ?_ (fun _ => ?_))
   | exact ih0 _ _ _
   | exact LeO.none _
   | refine LeO.ite ?_ ?_
   | refine LeO.bind ?_ (fun _ => ?_)
theorem incipitref08_Twice.mono : ∀ a0 k, LeO (incipitref08_Twice.f k a0) (incipitref08_Twice.f (k + 1) a0) := by
 intro a0 k
 have ih0 := incipitref08_Twice.mono_l k
 unfold incipitref08_Twice.f
 repeat' first
   | (with_reducible exact ih0 _ _ _)
   | (with_reducible exact LeO.refl _)
   | (with_reducible exact LeO.none _)
   | (with_reducible refine LeO.ite ?_ ?_)
   | (with_reducible refine LeO.bind ?_ (fun _ => ?_))
   | exact ih0 _ _ _
   | exact LeO.none _
   | refine LeO.ite ?_ ?_
   | refine LeO.bind ?_ (fun _ => ?_)
set_option maxHeartbeats 8000000 in
set_option maxRecDepth 100000 in
theorem incipitref08_Twice.calls (k : Nat) (A0 : Option Addr) (c0 : Nat) (l0 : List Int) (r : Bool) (w : World) (hr0 : Kd.C (Kd.int .i64) w A0 l0.length l0) (hc0 : l0.length ≤ c0) (h : incipitref08_Twice.f k l0 = some r) :
  Calls Try.prog 75 #[.slice A0 l0.length c0] w fun e w' => e = .returned (.bool r) ∧ Below w.heap.size w w' := by
 have HR0 := Aside0.mk hr0
 have HC0 := Aside0.mk hc0
 clear hr0 hc0
 have HB := Aside0.mk (Below.refl w.heap.size w)
 have H : (if 2048 ≤ 281474976710656 then (incipitref08_Twice.l0 k l0 (List.replicate 2048 false) 0) else (none)) = some r := h
 clear h
 by_cases c2 : 2048 ≤ 281474976710656
 ·rw [if_pos c2] at H
  have c2b0 := eq_true c2
  have c2b1 : decide (2048 ≤ 281474976710656) = true := decide_eq_true c2
  clear c2
  obtain ⟨y116, hy116⟩ : ∃ y_ : List Bool, y_ = (List.replicate 2048 false) := ⟨_, rfl⟩
  replace H : (incipitref08_Twice.l0 k l0 y116 0) = some r := by first | (rw [hy116]; with_reducible exact H) | (have H2_ := (Option.bind_some _ _).symm.trans H; rw [hy116]; with_reducible exact H2_) | (have H2_ := (Option.bind_some _ _).symm.trans H; with_reducible exact H2_) | with_reducible exact H | (rw [hy116]; exact H) | exact H
  have Ny116 := Aside0.mk hy116
  clear hy116
  have H' := Aside0.mk H
  clear H
  go_enter Try.func75, Try.ntmps75
  go_wp2_with (first | ((with_reducible refine gate_dst (N := 5) rfl ?_); refine Kd.R_make Kd.bool _ 4 rfl (N := 5) rfl 141 _ _ rfl 2048 rfl rfl Try.underlying141 (.bool false) 1 info4 rfl (by decide) (by omega) false (ok := fun _ => True) (okp := fun _ => True) rfl (fun _ hk => hk) trivial (by omega) (by omega) (Below.refl _ _) (Nat.le_refl _) ?_; intro v117 w3 ho4 hb hg_ hnew_; clear hg_ hnew_; (first | rw [← Ny116.out] at ho4 | (simp only [Int.reduceToNat] at ho4; rw [← Ny116.out] at ho4)); have n0_ := Aside0.mk (Kd.R_lower ho4 (below_size (by repeat (first | (with_reducible first | exact HB.out | apply below_alloc | apply pw_below_drewN | apply below_drew1) | exact HB.out)))); have n1_ := Aside0.mk (below_step (by repeat (first | (with_reducible first | exact HB.out | apply below_alloc | apply pw_below_drewN | apply below_drew1) | exact HB.out)) hb); clear HB; have HO118 := n0_; have HB := n1_; clear n0_ n1_; clear hb ho4))
  go_loopg [4] k (fun kq v4 w' => ∃ (x3_1 : List Bool) (x4_1 : Int), v4 = .int .i64 x4_1 ∧ Aside0 (incipitref08_Twice.l0 kq l0 x3_1 x4_1 = some r) ∧ Aside0 (kq ≤ k) ∧ Aside0 (Kd.R Kd.bool 4 w' w.heap.size (fun _ => True) v117 x3_1) ∧ Aside0 (Below w.heap.size w w'))
  case atStart => exact ⟨(y116), (0), (by first | rfl | (simp; done) | (simp [*]; done)), H', ⟨Nat.le_refl _⟩, ⟨by (with_reducible repeat (first | apply Kd.R_alloc | apply Kd.R_drewN | apply Kd.R_drew)); exact HO118.out⟩, ⟨by repeat (first | (with_reducible first | exact HB.out | apply below_alloc | apply pw_below_drewN | apply below_drew1) | exact HB.out)⟩⟩
  case round =>
   clear H'
   try clear c2
   try clear c2b0
   try clear c2b1
   try clear p2
   obtain ⟨x3_1, x4_1, rfl, HA, HK1, HO_3, HB⟩ := hrel
   cases gk with
   | zero => exact absurd HA.out (by simp [incipitref08_Twice.l0])
   | succ k1 =>
    have H := HA.out
    clear HA
    simp only [incipitref08_Twice.l0] at H
    by_cases c5 : x4_1 < (l0.length : Int)
    ·rw [if_pos c5] at H
     have c5b0 : decide (x4_1 < (l0.length : Int)) = true := decide_eq_true c5
     clear c5
     by_cases c6 : 0 ≤ x4_1
     ·rw [if_pos c6] at H
      have c6b0 : decide (0 ≤ x4_1) = true := decide_eq_true c6
      clear c6
      by_cases c7 : 0 ≤ (rd l0 x4_1)
      ·rw [if_pos c7] at H
       have c7b0 : decide (0 ≤ (rd l0 x4_1)) = true := decide_eq_true c7
       clear c7
       by_cases c8 : (rd l0 x4_1) < (x3_1.length : Int)
       ·rw [if_pos c8] at H
        have c8b0 : decide ((rd l0 x4_1) < (x3_1.length : Int)) = true := decide_eq_true c8
        clear c8
        obtain ⟨bq9, hbq9⟩ : ∃ b_ : Bool, b_ = (rdOf false x3_1 (rd l0 x4_1)) := ⟨_, rfl⟩
        replace H : (if bq9 = true then (some true) else (incipitref08_Twice.l0 k1 l0 (x3_1.set ((rd l0 x4_1) : Int).toNat true) (wrap64 (x4_1 + 1)))) = some r := by rw [← hbq9] at H; exact H
        have Nbq9 := Aside0.mk hbq9
        clear hbq9
        by_cases c10 : bq9 = true
        ·subst c10
         have H1 : (some true) = some r := by rw [if_pos rfl] at H; exact H
         clear H
         have H := H1
         clear H1
         obtain rfl := Option.some.inj H
         have p119 : 0 ≤ (x4_1 : Int) := of_decide_eq_true (by first | (with_reducible assumption) | assumption)
         have q119 : x4_1 < (l0.length : Int) := of_decide_eq_true (by first | (with_reducible assumption) | assumption)
         obtain ⟨ad119, e119, hx119_0⟩ := Kd.at_int HR0.out x4_1 p119 q119
         cases e119
         replace hx119_0 := (HB.out.cell (World.block_lt_of_cell? w _ hx119_0)).trans hx119_0
         replace p119 := eq_true p119
         replace q119 := eq_true q119
         obtain ⟨Ao11, co11, eo11⟩ := Kd.R_slice HO_3.out
         subst eo11
         have p120 : 0 ≤ ((rd l0 x4_1) : Int) := of_decide_eq_true (by first | (with_reducible assumption) | assumption)
         have q120 : (rd l0 x4_1) < (x3_1.length : Int) := of_decide_eq_true (by first | (with_reducible assumption) | assumption)
         obtain ⟨ad120, e120, hx120_0⟩ := Kd.at_bool (Kd.R_reads' HO_3.out).2.2 (rd l0 x4_1) p120 q120
         (try rw [← Nbq9.out] at hx120_0)
         cases e120
         replace p120 := eq_true p120
         replace q120 := eq_true q120
         go_wp2
         go_ret
         exact ⟨by first | rfl | (simp [errW_none, errW_some] <;> rfl) | (simp [*, errW_none, errW_some] <;> rfl), by repeat (first | (with_reducible first | exact HB.out | apply below_alloc | apply pw_below_drewN | apply below_drew1) | exact HB.out)⟩
        ·replace c10 := Bool.eq_false_iff.mpr c10
         subst c10
         have H1 : (incipitref08_Twice.l0 k1 l0 (x3_1.set ((rd l0 x4_1) : Int).toNat true) (wrap64 (x4_1 + 1))) = some r := by rw [if_neg (show ¬ (false = true) by decide)] at H; exact H
         clear H
         have H := H1
         clear H1
         obtain ⟨y122, hy122⟩ : ∃ y_ : List Bool, y_ = (x3_1.set ((rd l0 x4_1) : Int).toNat true) := ⟨_, rfl⟩
         replace H : (incipitref08_Twice.l0 k1 l0 y122 (wrap64 (x4_1 + 1))) = some r := by first | (rw [hy122]; with_reducible exact H) | (have H2_ := (Option.bind_some _ _).symm.trans H; rw [hy122]; with_reducible exact H2_) | (have H2_ := (Option.bind_some _ _).symm.trans H; with_reducible exact H2_) | with_reducible exact H | (rw [hy122]; exact H) | exact H
         have Ny122 := Aside0.mk hy122
         clear hy122
         have H' := Aside0.mk H
         clear H
         have p119 : 0 ≤ (x4_1 : Int) := of_decide_eq_true (by first | (with_reducible assumption) | assumption)
         have q119 : x4_1 < (l0.length : Int) := of_decide_eq_true (by first | (with_reducible assumption) | assumption)
         obtain ⟨ad119, e119, hx119_0⟩ := Kd.at_int HR0.out x4_1 p119 q119
         cases e119
         replace hx119_0 := (HB.out.cell (World.block_lt_of_cell? w _ hx119_0)).trans hx119_0
         replace p119 := eq_true p119
         replace q119 := eq_true q119
         obtain ⟨Ao13, co13, eo13⟩ := Kd.R_slice HO_3.out
         subst eo13
         have p120 : 0 ≤ ((rd l0 x4_1) : Int) := of_decide_eq_true (by first | (with_reducible assumption) | assumption)
         have q120 : (rd l0 x4_1) < (x3_1.length : Int) := of_decide_eq_true (by first | (with_reducible assumption) | assumption)
         obtain ⟨ad120, e120, hx120_0⟩ := Kd.at_bool (Kd.R_reads' HO_3.out).2.2 (rd l0 x4_1) p120 q120
         (try rw [← Nbq9.out] at hx120_0)
         cases e120
         replace p120 := eq_true p120
         replace q120 := eq_true q120
         have p121 : 0 ≤ (x4_1 : Int) := of_decide_eq_true (by first | (with_reducible assumption) | assumption)
         have q121 : x4_1 < (l0.length : Int) := of_decide_eq_true (by first | (with_reducible assumption) | assumption)
         obtain ⟨ad121, e121, hx121_0⟩ := Kd.at_int HR0.out x4_1 p121 q121
         obtain rfl : ad119 = ad121 := (by injection e121)
         replace hx121_0 := (HB.out.cell (World.block_lt_of_cell? w _ hx121_0)).trans hx121_0
         replace p121 := eq_true p121
         replace q121 := eq_true q121
         have p12 : 0 ≤ ((rd l0 x4_1) : Int) := of_decide_eq_true (by first | (with_reducible assumption) | assumption)
         have q12 : ((rd l0 x4_1) : Int) < ((x3_1.length : Int) : Int) := of_decide_eq_true (by first | (with_reducible assumption) | assumption)
         obtain ⟨go12, co12, eo12, gb12, gl12, cl12, HG12⟩ := Kd.R_form HO_3.out (by omega)
         (first | cases eo12 | (injection eo12 with ea_ en_ ec_; (first | subst ea_ | (injection ea_ with ea_; subst ea_)); subst ec_; clear en_))
         have GB12 := Aside0.mk gb12
         have GG12 := Aside0.mk HG12
         clear gb12 gl12 HG12
         (first | simp only [add_plain] at hx120_0 | skip)
         obtain ⟨hx12_0, hf12_0⟩ := Kd.R_celln false HO_3.out ((rd l0 x4_1) : Int) p12 q12
         replace p12 := eq_true p12
         replace q12 := eq_true q12
         have HP14 := Kd.R_putg HO_3.out ((rd l0 x4_1) : Int) true
         go_wp2_with (first | ((with_reducible refine gate_store (t := 4) (p := 24) rfl ?_); refine store_event (t := 4) (p := 24) (v := ?vo_w15) (w1 := (wr.setCell ⟨go12, ((rd l0 x4_1) : Int).toNat, none⟩ (.bool true))) ?hg ?ho ?hn ?hr ?_; (case ho => rfl); (case hg => rfl); (case hn => rfl); (case hr => first | (go_simp; done) | (go_simp; rfl)); intro w15 hw; have hg : wr.grownBy w15 (some go12) := (by rw [hw]; exact HP14.2); have hp_ : Kd.R Kd.bool 4 w15 w.heap.size (fun _ => True) (.slice (some ⟨go12, 0, none⟩) x3_1.length co13) y122 := (by rw [hw, Ny122.out]; exact HP14.1); clear HP14; have n0_ := Aside0.mk (hp_); have n1_ := Aside0.mk ((by rw [hw]; exact below_set (HB.out) GB12.out : Below w.heap.size w w15)); clear HO_3; clear HB; have HO_3 := n0_; have HB := n1_; clear n0_ n1_; clear hg hw hp_))
         go_roundg k1
         case measure => have := HK1.out; omega
         case rel => exact ⟨(y122), (wrap64 (x4_1 + 1)), (by first | rfl | (simp; done) | (simp [*]; done)), H', ⟨by have := HK1.out; omega⟩, ⟨by (with_reducible repeat (first | apply Kd.R_alloc | apply Kd.R_drewN | apply Kd.R_drew)); exact HO_3.out⟩, ⟨by repeat (first | (with_reducible first | exact HB.out | apply below_alloc | apply pw_below_drewN | apply below_drew1) | exact HB.out)⟩⟩
       ·rw [if_neg c8] at H
        exact absurd H (by simp)
      ·rw [if_neg c7] at H
       exact absurd H (by simp)
     ·rw [if_neg c6] at H
      exact absurd H (by simp)
    ·rw [if_neg c5] at H
     have c5b0 : decide (x4_1 < (l0.length : Int)) = false := decide_eq_false c5
     clear c5
     obtain rfl := Option.some.inj H
     go_wp2
     go_ret
     exact ⟨by first | rfl | (simp [errW_none, errW_some] <;> rfl) | (simp [*, errW_none, errW_some] <;> rfl), by repeat (first | (with_reducible first | exact HB.out | apply below_alloc | apply pw_below_drewN | apply below_drew1) | exact HB.out)⟩
 ·rw [if_neg c2] at H
  exact absurd H (by simp)

end Go.Proofs.Ytneliajeokajbaa.PExt
