-- Written by a program of this session (wip/tools/pp.sh, on the pattern of the kit's print): not typed by hand.
import Derived.Test.YthkofhidhghmmaaPSufSx0
namespace Go.Proofs.Ythkofhidhghmmaa.PSufS
open Go.RowKit Go.Proofs.YthkofhidhghmmaaW.PrintWords Go.Proofs.YthkofhidhghmmaaW.PrintLast Go.Proofs.YthkofhidhghmmaaW.PrintMore
attribute [local go_sem] max2_int min2_int max_two min_two max_three min_three max_four min_four   -- for this text's walks alone
set_option linter.unusedVariables false
set_option linter.unusedSimpArgs false

/-! ### incipitlaw15_Text: function 20 -/
def incipitlaw15_Text.l0 : Nat → List Int → Int → List Int → Int → Option (List Int)
 | 0, _, _, _, _ => none
 | k + 1, x0, x1, x5, x6 => if x6 < (x0.length : Int) then (if x6 < 120 then (if 0 ≤ x6 then (if (IntKind.u64.wrap (x1)) = 0 then (none) else (if x5.length < 17592186044416 then (incipitlaw15_Text.l0 k x0 x1 (x5 ++ [wrap64 (1 + (wrap64 (Int.tmod (IntKind.u64.wrap (rd x0 x6)) (IntKind.u64.wrap (x1)))))]) (wrap64 (x6 + 1))) else (none))) else (none)) else (if x5.length < 17592186044416 then (some (x5 ++ [0])) else (none))) else (if x5.length < 17592186044416 then (some (x5 ++ [0])) else (none))
def incipitlaw15_Text.f (k : Nat) (l0 : List Int) (a1 : Int) : Option (List Int) := incipitlaw15_Text.l0 k l0 (wrap64 (1 + (wrap64 (Int.tmod (IntKind.u64.wrap (a1)) 9)))) ([] : List Int) 0
theorem incipitlaw15_Text.mono_l : ∀ k, (∀ y0 y1 y2 y3, LeO (incipitlaw15_Text.l0 k y0 y1 y2 y3) (incipitlaw15_Text.l0 (k + 1) y0 y1 y2 y3))
 | 0 => fun _ _ _ _ r h => by simp [incipitlaw15_Text.l0] at h
 | k + 1 => by
  have ih0 := incipitlaw15_Text.mono_l k
  ·intro y0 y1 y2 y3
   unfold incipitlaw15_Text.l0
   repeat' first
   | (with_reducible exact ih0 _ _ _ _)
   | (with_reducible exact LeO.refl _)
   | (with_reducible exact LeO.none _)
   | (with_reducible refine LeO.ite ?_ ?_)
   | (with_reducible refine LeO.bind ?_ (fun _ => ?_))
   | exact ih0 _ _ _ _
   | exact LeO.none _
   | refine LeO.ite ?_ ?_
   | refine LeO.bind ?_ (fun _ => ?_)
theorem incipitlaw15_Text.mono : ∀ a0 a1 k, LeO (incipitlaw15_Text.f k a0 a1) (incipitlaw15_Text.f (k + 1) a0 a1) := by
 intro a0 a1 k
 have ih0 := incipitlaw15_Text.mono_l k
 unfold incipitlaw15_Text.f
 repeat' first
   | (with_reducible exact ih0 _ _ _ _)
   | (with_reducible exact LeO.refl _)
   | (with_reducible exact LeO.none _)
   | (with_reducible refine LeO.ite ?_ ?_)
   | (with_reducible refine LeO.bind ?_ (fun _ => ?_))
   | exact ih0 _ _ _ _
   | exact LeO.none _
   | refine LeO.ite ?_ ?_
   | refine LeO.bind ?_ (fun _ => ?_)
set_option maxHeartbeats 8000000 in
set_option maxRecDepth 100000 in
theorem incipitlaw15_Text.calls (k : Nat) (A0 : Option Addr) (c0 : Nat) (l0 : List Int) (a1 : Int) (r : List Int) (w : World) (hr0 : Kd.C (Kd.int .i64) w A0 l0.length l0) (hc0 : l0.length ≤ c0) (h : incipitlaw15_Text.f k l0 a1 = some r) :
  Calls Try.prog 20 #[.slice A0 l0.length c0, .int .i64 a1] w fun e w' => ∃ v0_ : Value, e = .returned (v0_) ∧ Kd.R (Kd.int .i64) 3 w' w.heap.size (fun _ => True) v0_ r ∧ Below w.heap.size w w' := by
 have HR0 := Aside0.mk hr0
 have HC0 := Aside0.mk hc0
 clear hr0 hc0
 have HB := Aside0.mk (Below.refl w.heap.size w)
 have H : (incipitlaw15_Text.l0 k l0 (wrap64 (1 + (wrap64 (Int.tmod (IntKind.u64.wrap (a1)) 9)))) ([] : List Int) 0) = some r := h
 clear h
 have H' := Aside0.mk H
 clear H
 go_enter Try.func20, Try.ntmps20
 go_wp2
 go_loopg [5, 6] k (fun kq v5 v6 w' => ∃ (x5_1 : List Int) (x6_1 : Int), v6 = .int .i64 x6_1 ∧ Aside0 (incipitlaw15_Text.l0 kq l0 (wrap64 (1 + (wrap64 (Int.tmod (IntKind.u64.wrap (a1)) 9)))) x5_1 x6_1 = some r) ∧ Aside0 (kq ≤ k) ∧ Aside0 (Kd.R (Kd.int .i64) 3 w' w.heap.size (fun _ => True) v5 x5_1) ∧ Aside0 (Below w.heap.size w w'))
 case atStart => exact ⟨(([] : List Int)), (0), (by first | rfl | (simp; done) | (simp [*]; done)), H', ⟨Nat.le_refl _⟩, ⟨by first | exact Kd.R_nil _ _ _ _ _ | exact Kd.N_nil _ _ _ _ _ | exact Kd.V_nil _ _ _ _ _ | exact Kd.Q_nil _ _ _ _ _ | exact Kd.S_nil _ _ _ _ _⟩, ⟨by repeat (first | (with_reducible first | exact HB.out | apply below_alloc | apply pw_below_drewN | apply below_drew1) | exact HB.out)⟩⟩
 case round =>
  clear H'
  try clear c2
  try clear p2
  obtain ⟨x5_1, x6_1, rfl, HA, HK1, HO_5, HB⟩ := hrel
  cases gk with
  | zero => exact absurd HA.out (by simp [incipitlaw15_Text.l0])
  | succ k1 =>
   have H := HA.out
   clear HA
   simp only [incipitlaw15_Text.l0] at H
   by_cases c3 : x6_1 < (l0.length : Int)
   ·rw [if_pos c3] at H
    have c3b0 : decide (x6_1 < (l0.length : Int)) = true := decide_eq_true c3
    clear c3
    by_cases c4 : x6_1 < 120
    ·rw [if_pos c4] at H
     have c4b0 : decide (x6_1 < 120) = true := decide_eq_true c4
     clear c4
     by_cases c5 : 0 ≤ x6_1
     ·rw [if_pos c5] at H
      have c5b0 : decide (0 ≤ x6_1) = true := decide_eq_true c5
      clear c5
      by_cases c6 : (IntKind.u64.wrap ((wrap64 (1 + (wrap64 (Int.tmod (IntKind.u64.wrap (a1)) 9)))))) = 0
      ·rw [if_pos c6] at H
       exact absurd H (by simp)
      ·rw [if_neg c6] at H
       have c6b0 : ((IntKind.u64.wrap ((wrap64 (1 + (wrap64 (Int.tmod (IntKind.u64.wrap (a1)) 9)))))) == 0) = false := beq_eq_false_iff_ne.mpr c6
       have c6b1 : ((IntKind.u64.wrap ((wrap64 (1 + (wrap64 (Int.tmod (IntKind.u64.wrap (a1)) 9)))))) != 0) = true := bne_iff_ne.mpr c6
       by_cases c7 : x5_1.length < 17592186044416
       ·rw [if_pos c7] at H
        have LMc7 := Aside0.mk c7
        clear c7
        obtain ⟨y186, hy186⟩ : ∃ y_ : List Int, y_ = (x5_1 ++ [wrap64 (1 + (wrap64 (Int.tmod (IntKind.u64.wrap (rd l0 x6_1)) (IntKind.u64.wrap ((wrap64 (1 + (wrap64 (Int.tmod (IntKind.u64.wrap (a1)) 9)))))))))]) := ⟨_, rfl⟩
        replace H : (incipitlaw15_Text.l0 k1 l0 (wrap64 (1 + (wrap64 (Int.tmod (IntKind.u64.wrap (a1)) 9)))) y186 (wrap64 (x6_1 + 1))) = some r := by first | (rw [hy186]; with_reducible exact H) | (have H2_ := (Option.bind_some _ _).symm.trans H; rw [hy186]; with_reducible exact H2_) | (have H2_ := (Option.bind_some _ _).symm.trans H; with_reducible exact H2_) | with_reducible exact H | (rw [hy186]; exact H) | exact H
        have Ny186 := Aside0.mk hy186
        clear hy186
        have H' := Aside0.mk H
        clear H
        have p185 : 0 ≤ (x6_1 : Int) := of_decide_eq_true (by first | (with_reducible assumption) | assumption)
        have q185 : x6_1 < (l0.length : Int) := of_decide_eq_true (by first | (with_reducible assumption) | assumption)
        obtain ⟨ad185, e185, hx185_0⟩ := Kd.at_int HR0.out x6_1 p185 q185
        cases e185
        replace hx185_0 := (HB.out.cell (World.block_lt_of_cell? w _ hx185_0)).trans hx185_0
        replace p185 := eq_true p185
        replace q185 := eq_true q185
        go_wp2_with (first | ((with_reducible refine gate_builtin (b := .append) (xs := #[.tmp 22, .tmp 33]) rfl ?_); at_builtin; refine Kd.R_append (Kd.int .i64) (w0 := w) w.heap.size rfl (.tmp 22) (.tmp 33) 22 3 (.int .i64 0) 8 rfl Try.underlying22 info3 rfl (by decide) (by omega) u5 x5_1 (wrap64 (1 + (wrap64 (Int.tmod (IntKind.u64.wrap (rd l0 x6_1)) (IntKind.u64.wrap ((wrap64 (1 + (wrap64 (Int.tmod (IntKind.u64.wrap (a1)) 9)))))))))) [.int .i64 (wrap64 (1 + (wrap64 (Int.tmod (IntKind.u64.wrap (rd l0 x6_1)) (IntKind.u64.wrap ((wrap64 (1 + (wrap64 (Int.tmod (IntKind.u64.wrap (a1)) 9))))))))))] (fun _ => True) (fun _ => False) rfl rfl ?aP (fun _ hk => hk.elim) ?aF ?aO ?aB ?aS ?aL ?_; (case aP => exact rfl); (case aB => exact (by repeat (first | (with_reducible first | exact HB.out | apply below_alloc | apply pw_below_drewN | apply below_drew1) | exact HB.out))); (case aF => exact (fun _ _ => trivial)); (case aO => exact (by (with_reducible repeat (first | apply Kd.R_alloc | apply Kd.R_drewN | apply Kd.R_drew)); exact HO_5.out)); (case aS => exact (below_size (by repeat (first | (with_reducible first | exact HB.out | apply below_alloc | apply pw_below_drewN | apply below_drew1) | exact HB.out)))); (case aL => have := LMc7.out; omega); intro v187 w8 ho hb hg hat; rw [← Ny186.out] at ho; have n0_ := Aside0.mk (hb); have n1_ := Aside0.mk (ho); clear HB; clear HO_5; have HB := n0_; have HO188 := n1_; clear n0_ n1_; clear ho hb hg hat))
        go_roundg k1
        case measure => have := HK1.out; omega
        case rel => exact ⟨(y186), (wrap64 (x6_1 + 1)), (by first | rfl | (simp; done) | (simp [*]; done)), H', ⟨by have := HK1.out; omega⟩, ⟨by (with_reducible repeat (first | apply Kd.R_alloc | apply Kd.R_drewN | apply Kd.R_drew)); exact HO188.out⟩, ⟨by repeat (first | (with_reducible first | exact HB.out | apply below_alloc | apply pw_below_drewN | apply below_drew1) | exact HB.out)⟩⟩
       ·rw [if_neg c7] at H
        exact absurd H (by simp)
     ·rw [if_neg c5] at H
      exact absurd H (by simp)
    ·rw [if_neg c4] at H
     have c4b0 : decide (x6_1 < 120) = false := decide_eq_false c4
     clear c4
     by_cases c9 : x5_1.length < 17592186044416
     ·rw [if_pos c9] at H
      have LMc9 := Aside0.mk c9
      clear c9
      obtain ⟨y189, hy189⟩ : ∃ y_ : List Int, y_ = (x5_1 ++ [0]) := ⟨_, rfl⟩
      replace H : (some y189) = some r := by first | (rw [hy189]; with_reducible exact H) | (have H2_ := (Option.bind_some _ _).symm.trans H; rw [hy189]; with_reducible exact H2_) | (have H2_ := (Option.bind_some _ _).symm.trans H; with_reducible exact H2_) | with_reducible exact H | (rw [hy189]; exact H) | exact H
      have Ny189 := Aside0.mk hy189
      clear hy189
      obtain rfl := Option.some.inj H
      go_wp2_with (first | ((with_reducible refine gate_builtin (b := .append) (xs := #[.tmp 35, .tmp 36]) rfl ?_); at_builtin; refine Kd.R_append (Kd.int .i64) (w0 := w) w.heap.size rfl (.tmp 35) (.tmp 36) 22 3 (.int .i64 0) 8 rfl Try.underlying22 info3 rfl (by decide) (by omega) u5 x5_1 0 [.int .i64 0] (fun _ => True) (fun _ => False) rfl rfl ?aP (fun _ hk => hk.elim) ?aF ?aO ?aB ?aS ?aL ?_; (case aP => exact rfl); (case aB => exact (by repeat (first | (with_reducible first | exact HB.out | apply below_alloc | apply pw_below_drewN | apply below_drew1) | exact HB.out))); (case aF => exact (fun _ _ => trivial)); (case aO => exact (by (with_reducible repeat (first | apply Kd.R_alloc | apply Kd.R_drewN | apply Kd.R_drew)); exact HO_5.out)); (case aS => exact (below_size (by repeat (first | (with_reducible first | exact HB.out | apply below_alloc | apply pw_below_drewN | apply below_drew1) | exact HB.out)))); (case aL => have := LMc9.out; omega); intro v190 w10 ho hb hg hat; rw [← Ny189.out] at ho; have n0_ := Aside0.mk (hb); have n1_ := Aside0.mk (ho); clear HB; clear HO_5; have HB := n0_; have HO191 := n1_; clear n0_ n1_; clear ho hb hg hat))
      go_ret
      exact ⟨_, by first | rfl | (simp [errW_none, errW_some] <;> rfl) | (simp [*, errW_none, errW_some] <;> rfl), by (with_reducible repeat (first | apply Kd.R_alloc | apply Kd.R_drewN | apply Kd.R_drew)); exact HO191.out, by repeat (first | (with_reducible first | exact HB.out | apply below_alloc | apply pw_below_drewN | apply below_drew1) | exact HB.out)⟩
     ·rw [if_neg c9] at H
      exact absurd H (by simp)
   ·rw [if_neg c3] at H
    have c3b0 : decide (x6_1 < (l0.length : Int)) = false := decide_eq_false c3
    clear c3
    by_cases c11 : x5_1.length < 17592186044416
    ·rw [if_pos c11] at H
     have LMc11 := Aside0.mk c11
     clear c11
     obtain ⟨y192, hy192⟩ : ∃ y_ : List Int, y_ = (x5_1 ++ [0]) := ⟨_, rfl⟩
     replace H : (some y192) = some r := by first | (rw [hy192]; with_reducible exact H) | (have H2_ := (Option.bind_some _ _).symm.trans H; rw [hy192]; with_reducible exact H2_) | (have H2_ := (Option.bind_some _ _).symm.trans H; with_reducible exact H2_) | with_reducible exact H | (rw [hy192]; exact H) | exact H
     have Ny192 := Aside0.mk hy192
     clear hy192
     obtain rfl := Option.some.inj H
     go_wp2_with (first | ((with_reducible refine gate_builtin (b := .append) (xs := #[.tmp 35, .tmp 36]) rfl ?_); at_builtin; refine Kd.R_append (Kd.int .i64) (w0 := w) w.heap.size rfl (.tmp 35) (.tmp 36) 22 3 (.int .i64 0) 8 rfl Try.underlying22 info3 rfl (by decide) (by omega) u5 x5_1 0 [.int .i64 0] (fun _ => True) (fun _ => False) rfl rfl ?aP (fun _ hk => hk.elim) ?aF ?aO ?aB ?aS ?aL ?_; (case aP => exact rfl); (case aB => exact (by repeat (first | (with_reducible first | exact HB.out | apply below_alloc | apply pw_below_drewN | apply below_drew1) | exact HB.out))); (case aF => exact (fun _ _ => trivial)); (case aO => exact (by (with_reducible repeat (first | apply Kd.R_alloc | apply Kd.R_drewN | apply Kd.R_drew)); exact HO_5.out)); (case aS => exact (below_size (by repeat (first | (with_reducible first | exact HB.out | apply below_alloc | apply pw_below_drewN | apply below_drew1) | exact HB.out)))); (case aL => have := LMc11.out; omega); intro v193 w12 ho hb hg hat; rw [← Ny192.out] at ho; have n0_ := Aside0.mk (hb); have n1_ := Aside0.mk (ho); clear HB; clear HO_5; have HB := n0_; have HO194 := n1_; clear n0_ n1_; clear ho hb hg hat))
     go_ret
     exact ⟨_, by first | rfl | (simp [errW_none, errW_some] <;> rfl) | (simp [*, errW_none, errW_some] <;> rfl), by (with_reducible repeat (first | apply Kd.R_alloc | apply Kd.R_drewN | apply Kd.R_drew)); exact HO194.out, by repeat (first | (with_reducible first | exact HB.out | apply below_alloc | apply pw_below_drewN | apply below_drew1) | exact HB.out)⟩
    ·rw [if_neg c11] at H
     exact absurd H (by simp)

/-! ### incipitref15_Common: function 28 -/
def incipitref15_Common.l0 : Nat → List Int → Int → Int → Int → Option (Int)
 | 0, _, _, _, _ => none
 | k + 1, x0, x1, x2, x7 => if (wrap64 (x1 + x7)) < (x0.length : Int) then (if (wrap64 (x2 + x7)) < (x0.length : Int) then (if 0 ≤ (wrap64 (x1 + x7)) then (if 0 ≤ (wrap64 (x2 + x7)) then (if (rd x0 (wrap64 (x1 + x7))) = (rd x0 (wrap64 (x2 + x7))) then (incipitref15_Common.l0 k x0 x1 x2 (wrap64 (x7 + 1))) else (some x7)) else (none)) else (none)) else (some x7)) else (some x7)
def incipitref15_Common.f (k : Nat) (l0 : List Int) (a1 : Int) (a2 : Int) : Option (Int) := incipitref15_Common.l0 k l0 a1 a2 0
theorem incipitref15_Common.mono_l : ∀ k, (∀ y0 y1 y2 y3, LeO (incipitref15_Common.l0 k y0 y1 y2 y3) (incipitref15_Common.l0 (k + 1) y0 y1 y2 y3))
 | 0 => fun _ _ _ _ r h => by simp [incipitref15_Common.l0] at h
 | k + 1 => by
  have ih0 := incipitref15_Common.mono_l k
  ·intro y0 y1 y2 y3
   unfold incipitref15_Common.l0
   repeat' first
   | (with_reducible exact ih0 _ _ _ _)
   | (with_reducible exact LeO.refl _)
   | (with_reducible exact LeO.none _)
   | (with_reducible refine LeO.ite ?_ ?_)
   | (with_reducible refine LeO.bind ?_ (fun _ => ?_))
   | exact ih0 _ _ _ _
   | exact LeO.none _
   | refine LeO.ite ?_ ?_
   | refine LeO.bind ?_ (fun _ => ?_)
theorem incipitref15_Common.mono : ∀ a0 a1 a2 k, LeO (incipitref15_Common.f k a0 a1 a2) (incipitref15_Common.f (k + 1) a0 a1 a2) := by
 intro a0 a1 a2 k
 have ih0 := incipitref15_Common.mono_l k
 unfold incipitref15_Common.f
 repeat' first
   | (with_reducible exact ih0 _ _ _ _)
   | (with_reducible exact LeO.refl _)
   | (with_reducible exact LeO.none _)
   | (with_reducible refine LeO.ite ?_ ?_)
   | (with_reducible refine LeO.bind ?_ (fun _ => ?_))
   | exact ih0 _ _ _ _
   | exact LeO.none _
   | refine LeO.ite ?_ ?_
   | refine LeO.bind ?_ (fun _ => ?_)
set_option maxHeartbeats 8000000 in
set_option maxRecDepth 100000 in
theorem incipitref15_Common.calls (k : Nat) (A0 : Option Addr) (c0 : Nat) (l0 : List Int) (a1 : Int) (a2 : Int) (r : Int) (w : World) (hr0 : Kd.C (Kd.int .i64) w A0 l0.length l0) (hc0 : l0.length ≤ c0) (h : incipitref15_Common.f k l0 a1 a2 = some r) :
  Calls Try.prog 28 #[.slice A0 l0.length c0, .int .i64 a1, .int .i64 a2] w fun e w' => e = .returned (.int .i64 r) ∧ Drawn0 w w' := by
 have HR0 := Aside0.mk hr0
 have HC0 := Aside0.mk hc0
 clear hr0 hc0
 have H : (incipitref15_Common.l0 k l0 a1 a2 0) = some r := h
 clear h
 have H' := Aside0.mk H
 clear H
 go_enter Try.func28, Try.ntmps28
 go_wp2
 repeat (go_quiet (fail); try go_wp2)
 go_loopg [7] k (fun kq v7 w' => ∃ (x7_1 : Int), v7 = .int .i64 x7_1 ∧ Aside0 (incipitref15_Common.l0 kq l0 a1 a2 x7_1 = some r) ∧ Aside0 (kq ≤ k) ∧ Drawn0 w w')
 case atStart => exact ⟨(0), (by first | rfl | (simp; done) | (simp [*]; done)), H', ⟨Nat.le_refl _⟩, by repeat (first | exact Drawn0.refl _ | apply Drawn0.step)⟩
 case round =>
  clear H'
  try clear c2
  try clear p2
  obtain ⟨x7_1, rfl, HA, HK1, ⟨m1, rfl⟩⟩ := hrel
  cases gk with
  | zero => exact absurd HA.out (by simp [incipitref15_Common.l0])
  | succ k1 =>
   have H := HA.out
   clear HA
   simp only [incipitref15_Common.l0] at H
   by_cases c4 : (wrap64 (a1 + x7_1)) < (l0.length : Int)
   ·rw [if_pos c4] at H
    have c4b0 : decide ((wrap64 (a1 + x7_1)) < (l0.length : Int)) = true := decide_eq_true c4
    clear c4
    by_cases c5 : (wrap64 (a2 + x7_1)) < (l0.length : Int)
    ·rw [if_pos c5] at H
     have c5b0 : decide ((wrap64 (a2 + x7_1)) < (l0.length : Int)) = true := decide_eq_true c5
     clear c5
     obtain ⟨ji6, hji6⟩ : ∃ j_ : Int, (wrap64 (a1 + x7_1)) = j_ := ⟨_, rfl⟩
     replace H : (if 0 ≤ (ji6) then (if 0 ≤ (wrap64 (a2 + x7_1)) then (if (rd l0 (ji6)) = (rd l0 (wrap64 (a2 + x7_1))) then (incipitref15_Common.l0 k1 l0 a1 a2 (wrap64 (x7_1 + 1))) else (some x7_1)) else (none)) else (none)) = some r := by first | (rw [hji6] at H; exact H) | (simp only [hji6] at H ⊢; exact H)
     (try rw [hji6] at c4b0)
     have hji6w : (IntKind.i64.wrap (a1 + x7_1)) = ji6 := (i64_w _).trans hji6
     by_cases c7 : 0 ≤ (ji6)
     ·rw [if_pos c7] at H
      have c7b0 : decide (0 ≤ (ji6)) = true := decide_eq_true c7
      clear c7
      obtain ⟨ji8, hji8⟩ : ∃ j_ : Int, (wrap64 (a2 + x7_1)) = j_ := ⟨_, rfl⟩
      replace H : (if 0 ≤ (ji8) then (if (rd l0 (ji6)) = (rd l0 (ji8)) then (incipitref15_Common.l0 k1 l0 a1 a2 (wrap64 (x7_1 + 1))) else (some x7_1)) else (none)) = some r := by first | (rw [hji8] at H; exact H) | (simp only [hji8] at H ⊢; exact H)
      (try rw [hji8] at c5b0)
      have hji8w : (IntKind.i64.wrap (a2 + x7_1)) = ji8 := (i64_w _).trans hji8
      by_cases c9 : 0 ≤ (ji8)
      ·rw [if_pos c9] at H
       have c9b0 : decide (0 ≤ (ji8)) = true := decide_eq_true c9
       clear c9
       by_cases c10 : (rd l0 (ji6)) = (rd l0 (ji8))
       ·rw [if_pos c10] at H
        have c10b0 : ((rd l0 (ji6)) == (rd l0 (ji8))) = true := beq_iff_eq.mpr c10
        have c10b1 : ((rd l0 (ji6)) != (rd l0 (ji8))) = false := bne_eq_false_iff_eq.mpr c10
        clear c10
        have H' := Aside0.mk H
        clear H
        have p195 : 0 ≤ ((ji6) : Int) := of_decide_eq_true (by first | (with_reducible assumption) | assumption)
        have q195 : (ji6) < (l0.length : Int) := of_decide_eq_true (by first | (with_reducible assumption) | assumption)
        obtain ⟨ad195, e195, hx195_0⟩ := Kd.at_int HR0.out (ji6) p195 q195
        cases e195
        replace p195 := eq_true p195
        replace q195 := eq_true q195
        have p196 : 0 ≤ ((ji8) : Int) := of_decide_eq_true (by first | (with_reducible assumption) | assumption)
        have q196 : (ji8) < (l0.length : Int) := of_decide_eq_true (by first | (with_reducible assumption) | assumption)
        obtain ⟨ad196, e196, hx196_0⟩ := Kd.at_int HR0.out (ji8) p196 q196
        obtain rfl : ad195 = ad196 := (by injection e196)
        replace p196 := eq_true p196
        replace q196 := eq_true q196
        go_wp2
        repeat (go_quiet (fail); try go_wp2)
        go_roundg k1
        case measure => have := HK1.out; omega
        case rel => exact ⟨(wrap64 (x7_1 + 1)), (by first | rfl | (simp; done) | (simp [*]; done)), H', ⟨by have := HK1.out; omega⟩, by repeat (first | exact Drawn0.refl _ | apply Drawn0.step)⟩
       ·rw [if_neg c10] at H
        have c10b0 : ((rd l0 (ji6)) == (rd l0 (ji8))) = false := beq_eq_false_iff_ne.mpr c10
        have c10b1 : ((rd l0 (ji6)) != (rd l0 (ji8))) = true := bne_iff_ne.mpr c10
        obtain rfl := Option.some.inj H
        have p195 : 0 ≤ ((ji6) : Int) := of_decide_eq_true (by first | (with_reducible assumption) | assumption)
        have q195 : (ji6) < (l0.length : Int) := of_decide_eq_true (by first | (with_reducible assumption) | assumption)
        obtain ⟨ad195, e195, hx195_0⟩ := Kd.at_int HR0.out (ji6) p195 q195
        cases e195
        replace p195 := eq_true p195
        replace q195 := eq_true q195
        have p196 : 0 ≤ ((ji8) : Int) := of_decide_eq_true (by first | (with_reducible assumption) | assumption)
        have q196 : (ji8) < (l0.length : Int) := of_decide_eq_true (by first | (with_reducible assumption) | assumption)
        obtain ⟨ad196, e196, hx196_0⟩ := Kd.at_int HR0.out (ji8) p196 q196
        obtain rfl : ad195 = ad196 := (by injection e196)
        replace p196 := eq_true p196
        replace q196 := eq_true q196
        go_wp2
        repeat (go_quiet (fail); try go_wp2)
        go_ret
        exact ⟨by first | rfl | (simp; done) | (simp only [← hji6, ← hji8] <;> (first | rfl | simp)) | (simp [*]; done), by repeat (first | exact Drawn0.refl _ | apply Drawn0.step)⟩
      ·rw [if_neg c9] at H
       exact absurd H (by simp)
     ·rw [if_neg c7] at H
      exact absurd H (by simp)
    ·rw [if_neg c5] at H
     have c5b0 : decide ((wrap64 (a2 + x7_1)) < (l0.length : Int)) = false := decide_eq_false c5
     clear c5
     obtain rfl := Option.some.inj H
     go_wp2
     repeat (go_quiet (fail); try go_wp2)
     go_ret
     exact ⟨by first | rfl | (simp; done) | (simp [*]; done), by repeat (first | exact Drawn0.refl _ | apply Drawn0.step)⟩
   ·rw [if_neg c4] at H
    have c4b0 : decide ((wrap64 (a1 + x7_1)) < (l0.length : Int)) = false := decide_eq_false c4
    clear c4
    obtain rfl := Option.some.inj H
    go_wp2
    repeat (go_quiet (fail); try go_wp2)
    go_ret
    exact ⟨by first | rfl | (simp; done) | (simp [*]; done), by repeat (first | exact Drawn0.refl _ | apply Drawn0.step)⟩

/-! ### incipitref15_Less: function 31 -/
def incipitref15_Less.f (k : Nat) (l0 : List Int) (a1 : Int) (a2 : Int) : Option (Bool) := (incipitref15_Common.f k l0 a1 a2).bind fun t197 => (if a1 = a2 then (some false) else (if 0 ≤ (wrap64 (a1 + t197)) then (if (wrap64 (a1 + t197)) < (l0.length : Int) then (if 0 ≤ (wrap64 (a2 + t197)) then (if (wrap64 (a2 + t197)) < (l0.length : Int) then (some (decide ((rd l0 (wrap64 (a1 + t197))) < (rd l0 (wrap64 (a2 + t197)))))) else (none)) else (none)) else (none)) else (none)))
theorem incipitref15_Less.mono : ∀ a0 a1 a2 k, LeO (incipitref15_Less.f k a0 a1 a2) (incipitref15_Less.f (k + 1) a0 a1 a2) := by
 intro a0 a1 a2 k
 unfold incipitref15_Less.f
 repeat' first
   | (with_reducible exact incipitref15_Common.mono _ _ _ _)
   | (with_reducible exact LeO.refl _)
   | (with_reducible exact LeO.none _)
   | (with_reducible refine LeO.ite ?_ ?_)
   | (with_reducible refine LeO.bind ?_ (fun _ => ?_))
   | exact incipitref15_Common.mono _ _ _ _
   | exact LeO.none _
   | refine LeO.ite ?_ ?_
   | refine LeO.bind ?_ (fun _ => ?_)
set_option maxHeartbeats 8000000 in
set_option maxRecDepth 100000 in
theorem incipitref15_Less.calls (k : Nat) (A0 : Option Addr) (c0 : Nat) (l0 : List Int) (a1 : Int) (a2 : Int) (r : Bool) (w : World) (hr0 : Kd.C (Kd.int .i64) w A0 l0.length l0) (hc0 : l0.length ≤ c0) (h : incipitref15_Less.f k l0 a1 a2 = some r) :
  Calls Try.prog 31 #[.slice A0 l0.length c0, .int .i64 a1, .int .i64 a2] w fun e w' => e = .returned (.bool r) ∧ Drawn0 w w' := by
 have HR0 := Aside0.mk hr0
 have HC0 := Aside0.mk hc0
 clear hr0 hc0
 have H : ((incipitref15_Common.f k l0 a1 a2).bind fun t197 => (if a1 = a2 then (some false) else (if 0 ≤ (wrap64 (a1 + t197)) then (if (wrap64 (a1 + t197)) < (l0.length : Int) then (if 0 ≤ (wrap64 (a2 + t197)) then (if (wrap64 (a2 + t197)) < (l0.length : Int) then (some (decide ((rd l0 (wrap64 (a1 + t197))) < (rd l0 (wrap64 (a2 + t197)))))) else (none)) else (none)) else (none)) else (none)))) = some r := h
 clear h
 replace H := Option.bind_eq_some_iff.mp H
 obtain ⟨t197, A40, H⟩ := H
 replace H : (if a1 = a2 then (some false) else (if 0 ≤ (wrap64 (a1 + t197)) then (if (wrap64 (a1 + t197)) < (l0.length : Int) then (if 0 ≤ (wrap64 (a2 + t197)) then (if (wrap64 (a2 + t197)) < (l0.length : Int) then (some (decide ((rd l0 (wrap64 (a1 + t197))) < (rd l0 (wrap64 (a2 + t197)))))) else (none)) else (none)) else (none)) else (none))) = some r := H
 have A4 := Aside0.mk A40
 clear A40
 by_cases c5 : a1 = a2
 ·rw [if_pos c5] at H
  have c5b0 : (a1 == a2) = true := beq_iff_eq.mpr c5
  have c5b1 : (a1 != a2) = false := bne_eq_false_iff_eq.mpr c5
  clear c5
  obtain rfl := Option.some.inj H
  go_enter Try.func31, Try.ntmps31
  go_wp2_with (first | (go_at_call 28; (with_reducible refine (incipitref15_Common.calls k _ _ l0 a1 a2 t197 _ ?side1 ?side2 A4.out).mono ?_); (case side1 => repeat (first | exact HR0.out | (with_reducible refine Kd.C_alloc ?_ _) | (with_reducible refine Kd.C_drewN ?_ _) | (with_reducible refine Kd.C_drew ?_))); (case side2 => exact HC0.out); rintro e w' ⟨rfl, ⟨nd, rfl⟩⟩; (try first | exact ⟨rfl, _, World.drewN_drewN _ _ _⟩ | exact ⟨rfl, _, Eq.trans (World.drewN_drewN _ _ _) (congrArg (World.drewN _) (Nat.add_assoc _ _ _))⟩)))
  repeat (go_quiet (first | (go_at_call 28; (with_reducible refine (incipitref15_Common.calls k _ _ l0 a1 a2 t197 _ ?side1 ?side2 A4.out).mono ?_); (case side1 => repeat (first | exact HR0.out | (with_reducible refine Kd.C_alloc ?_ _) | (with_reducible refine Kd.C_drewN ?_ _) | (with_reducible refine Kd.C_drew ?_))); (case side2 => exact HC0.out); rintro e w' ⟨rfl, ⟨nd, rfl⟩⟩; (try first | exact ⟨rfl, _, World.drewN_drewN _ _ _⟩ | exact ⟨rfl, _, Eq.trans (World.drewN_drewN _ _ _) (congrArg (World.drewN _) (Nat.add_assoc _ _ _))⟩))); try go_wp2_with (first | (go_at_call 28; (with_reducible refine (incipitref15_Common.calls k _ _ l0 a1 a2 t197 _ ?side1 ?side2 A4.out).mono ?_); (case side1 => repeat (first | exact HR0.out | (with_reducible refine Kd.C_alloc ?_ _) | (with_reducible refine Kd.C_drewN ?_ _) | (with_reducible refine Kd.C_drew ?_))); (case side2 => exact HC0.out); rintro e w' ⟨rfl, ⟨nd, rfl⟩⟩; (try first | exact ⟨rfl, _, World.drewN_drewN _ _ _⟩ | exact ⟨rfl, _, Eq.trans (World.drewN_drewN _ _ _) (congrArg (World.drewN _) (Nat.add_assoc _ _ _))⟩))))
  go_ret
  exact ⟨by first | rfl | (simp; done) | (simp [*]; done), by repeat (first | exact Drawn0.refl _ | apply Drawn0.step)⟩
 ·rw [if_neg c5] at H
  have c5b0 : (a1 == a2) = false := beq_eq_false_iff_ne.mpr c5
  have c5b1 : (a1 != a2) = true := bne_iff_ne.mpr c5
  obtain ⟨ji6, hji6⟩ : ∃ j_ : Int, (wrap64 (a1 + t197)) = j_ := ⟨_, rfl⟩
  replace H : (if 0 ≤ (ji6) then (if (ji6) < (l0.length : Int) then (if 0 ≤ (wrap64 (a2 + t197)) then (if (wrap64 (a2 + t197)) < (l0.length : Int) then (some (decide ((rd l0 (ji6)) < (rd l0 (wrap64 (a2 + t197)))))) else (none)) else (none)) else (none)) else (none)) = some r := by first | (rw [hji6] at H; exact H) | (simp only [hji6] at H ⊢; exact H)
  (try rw [hji6] at A4)
  have hji6w : (IntKind.i64.wrap (a1 + t197)) = ji6 := (i64_w _).trans hji6
  by_cases c7 : 0 ≤ (ji6)
  ·rw [if_pos c7] at H
   have c7b0 : decide (0 ≤ (ji6)) = true := decide_eq_true c7
   clear c7
   by_cases c8 : (ji6) < (l0.length : Int)
   ·rw [if_pos c8] at H
    have c8b0 : decide ((ji6) < (l0.length : Int)) = true := decide_eq_true c8
    clear c8
    obtain ⟨ji9, hji9⟩ : ∃ j_ : Int, (wrap64 (a2 + t197)) = j_ := ⟨_, rfl⟩
    replace H : (if 0 ≤ (ji9) then (if (ji9) < (l0.length : Int) then (some (decide ((rd l0 (ji6)) < (rd l0 (ji9))))) else (none)) else (none)) = some r := by first | (rw [hji9] at H; exact H) | (simp only [hji9] at H ⊢; exact H)
    (try rw [hji9] at A4)
    have hji9w : (IntKind.i64.wrap (a2 + t197)) = ji9 := (i64_w _).trans hji9
    by_cases c10 : 0 ≤ (ji9)
    ·rw [if_pos c10] at H
     have c10b0 : decide (0 ≤ (ji9)) = true := decide_eq_true c10
     clear c10
     by_cases c11 : (ji9) < (l0.length : Int)
     ·rw [if_pos c11] at H
      have c11b0 : decide ((ji9) < (l0.length : Int)) = true := decide_eq_true c11
      clear c11
      obtain rfl := Option.some.inj H
      go_enter Try.func31, Try.ntmps31
      go_wp2_with (first | (go_at_call 28; (with_reducible refine (incipitref15_Common.calls k _ _ l0 a1 a2 t197 _ ?side1 ?side2 A4.out).mono ?_); (case side1 => repeat (first | exact HR0.out | (with_reducible refine Kd.C_alloc ?_ _) | (with_reducible refine Kd.C_drewN ?_ _) | (with_reducible refine Kd.C_drew ?_))); (case side2 => exact HC0.out); rintro e w' ⟨rfl, ⟨nd, rfl⟩⟩; (try first | exact ⟨rfl, _, World.drewN_drewN _ _ _⟩ | exact ⟨rfl, _, Eq.trans (World.drewN_drewN _ _ _) (congrArg (World.drewN _) (Nat.add_assoc _ _ _))⟩); have p198 : 0 ≤ ((ji6) : Int) := of_decide_eq_true (by first | (with_reducible assumption) | assumption); have q198 : (ji6) < (l0.length : Int) := of_decide_eq_true (by first | (with_reducible assumption) | assumption); obtain ⟨ad198, e198, hx198_0⟩ := Kd.at_int HR0.out (ji6) p198 q198; cases e198; replace p198 := eq_true p198; replace q198 := eq_true q198; have p199 : 0 ≤ ((ji9) : Int) := of_decide_eq_true (by first | (with_reducible assumption) | assumption); have q199 : (ji9) < (l0.length : Int) := of_decide_eq_true (by first | (with_reducible assumption) | assumption); obtain ⟨ad199, e199, hx199_0⟩ := Kd.at_int HR0.out (ji9) p199 q199; obtain rfl : ad198 = ad199 := (by injection e199); replace p199 := eq_true p199; replace q199 := eq_true q199))
      repeat (go_quiet (first | (go_at_call 28; (with_reducible refine (incipitref15_Common.calls k _ _ l0 a1 a2 t197 _ ?side1 ?side2 A4.out).mono ?_); (case side1 => repeat (first | exact HR0.out | (with_reducible refine Kd.C_alloc ?_ _) | (with_reducible refine Kd.C_drewN ?_ _) | (with_reducible refine Kd.C_drew ?_))); (case side2 => exact HC0.out); rintro e w' ⟨rfl, ⟨nd, rfl⟩⟩; (try first | exact ⟨rfl, _, World.drewN_drewN _ _ _⟩ | exact ⟨rfl, _, Eq.trans (World.drewN_drewN _ _ _) (congrArg (World.drewN _) (Nat.add_assoc _ _ _))⟩); have p198 : 0 ≤ ((ji6) : Int) := of_decide_eq_true (by first | (with_reducible assumption) | assumption); have q198 : (ji6) < (l0.length : Int) := of_decide_eq_true (by first | (with_reducible assumption) | assumption); obtain ⟨ad198, e198, hx198_0⟩ := Kd.at_int HR0.out (ji6) p198 q198; cases e198; replace p198 := eq_true p198; replace q198 := eq_true q198; have p199 : 0 ≤ ((ji9) : Int) := of_decide_eq_true (by first | (with_reducible assumption) | assumption); have q199 : (ji9) < (l0.length : Int) := of_decide_eq_true (by first | (with_reducible assumption) | assumption); obtain ⟨ad199, e199, hx199_0⟩ := Kd.at_int HR0.out (ji9) p199 q199; obtain rfl : ad198 = ad199 := (by injection e199); replace p199 := eq_true p199; replace q199 := eq_true q199)); try go_wp2_with (first | (go_at_call 28; (with_reducible refine (incipitref15_Common.calls k _ _ l0 a1 a2 t197 _ ?side1 ?side2 A4.out).mono ?_); (case side1 => repeat (first | exact HR0.out | (with_reducible refine Kd.C_alloc ?_ _) | (with_reducible refine Kd.C_drewN ?_ _) | (with_reducible refine Kd.C_drew ?_))); (case side2 => exact HC0.out); rintro e w' ⟨rfl, ⟨nd, rfl⟩⟩; (try first | exact ⟨rfl, _, World.drewN_drewN _ _ _⟩ | exact ⟨rfl, _, Eq.trans (World.drewN_drewN _ _ _) (congrArg (World.drewN _) (Nat.add_assoc _ _ _))⟩); have p198 : 0 ≤ ((ji6) : Int) := of_decide_eq_true (by first | (with_reducible assumption) | assumption); have q198 : (ji6) < (l0.length : Int) := of_decide_eq_true (by first | (with_reducible assumption) | assumption); obtain ⟨ad198, e198, hx198_0⟩ := Kd.at_int HR0.out (ji6) p198 q198; cases e198; replace p198 := eq_true p198; replace q198 := eq_true q198; have p199 : 0 ≤ ((ji9) : Int) := of_decide_eq_true (by first | (with_reducible assumption) | assumption); have q199 : (ji9) < (l0.length : Int) := of_decide_eq_true (by first | (with_reducible assumption) | assumption); obtain ⟨ad199, e199, hx199_0⟩ := Kd.at_int HR0.out (ji9) p199 q199; obtain rfl : ad198 = ad199 := (by injection e199); replace p199 := eq_true p199; replace q199 := eq_true q199)))
      go_ret
      exact ⟨by first | rfl | (simp; done) | (simp only [← hji6, ← hji9] <;> (first | rfl | simp)) | (simp [*]; done), by repeat (first | exact Drawn0.refl _ | apply Drawn0.step)⟩
     ·rw [if_neg c11] at H
      exact absurd H (by simp)
    ·rw [if_neg c10] at H
     exact absurd H (by simp)
   ·rw [if_neg c8] at H
    exact absurd H (by simp)
  ·rw [if_neg c7] at H
   exact absurd H (by simp)

/-! ### incipitref15_Sort: function 26 -/
mutual
def incipitref15_Sort.l0 : Nat → List Int → List Int → Int → Option (List Int)
 | 0, _, _, _ => none
 | k + 1, x0, x3, x4 => if x4 < (x0.length : Int) then (incipitref15_Sort.l1 k x0 x3 x4 0) else (some x3)
def incipitref15_Sort.l1 : Nat → List Int → List Int → Int → Int → Option (List Int)
 | 0, _, _, _, _ => none
 | k + 1, x0, x3, x4, x5 => if x5 < (x3.length : Int) then (if 0 ≤ x5 then ((incipitref15_Less.f k x0 (rd x3 x5) x4).bind fun t201 => (if t201 = true then (incipitref15_Sort.l1 k x0 x3 x4 (wrap64 (x5 + 1))) else ((some (([] : List Int) : List Int)).bind fun y202 => (if x5 ≤ (x3.length : Int) then ((some (x3.take (x5 : Int).toNat : List Int)).bind fun y205 => (if y202.length + y205.length < 17592186044416 then ((some (y202 ++ y205 : List Int)).bind fun y209 => (if y209.length < 17592186044416 then ((some (y209 ++ [x4] : List Int)).bind fun y212 => ((some (x3.drop (x5 : Int).toNat : List Int)).bind fun y215 => (if y212.length + y215.length < 17592186044416 then (incipitref15_Sort.l0 k x0 (y212 ++ y215) (wrap64 (x4 + 1))) else (none)))) else (none))) else (none))) else (none))))) else (none)) else ((some (([] : List Int) : List Int)).bind fun y222 => (if 0 ≤ x5 then (if x5 ≤ (x3.length : Int) then ((some (x3.take (x5 : Int).toNat : List Int)).bind fun y225 => (if y222.length + y225.length < 17592186044416 then ((some (y222 ++ y225 : List Int)).bind fun y229 => (if y229.length < 17592186044416 then ((some (y229 ++ [x4] : List Int)).bind fun y232 => ((some (x3.drop (x5 : Int).toNat : List Int)).bind fun y235 => (if y232.length + y235.length < 17592186044416 then (incipitref15_Sort.l0 k x0 (y232 ++ y235) (wrap64 (x4 + 1))) else (none)))) else (none))) else (none))) else (none)) else (none)))
end
def incipitref15_Sort.f (k : Nat) (l0 : List Int) : Option (List Int) := incipitref15_Sort.l0 k l0 ([] : List Int) 0
theorem incipitref15_Sort.mono_l : ∀ k, (∀ y0 y1 y2, LeO (incipitref15_Sort.l0 k y0 y1 y2) (incipitref15_Sort.l0 (k + 1) y0 y1 y2)) ∧ (∀ y0 y1 y2 y3, LeO (incipitref15_Sort.l1 k y0 y1 y2 y3) (incipitref15_Sort.l1 (k + 1) y0 y1 y2 y3))
 | 0 => ⟨fun _ _ _ r h => by simp [incipitref15_Sort.l0] at h, fun _ _ _ _ r h => by simp [incipitref15_Sort.l1] at h⟩
 | k + 1 => by
  obtain ⟨ih0, ih1⟩ := incipitref15_Sort.mono_l k
  refine ⟨?_, ?_⟩
  ·intro y0 y1 y2
   unfold incipitref15_Sort.l0
   repeat' first
   | (with_reducible exact ih0 _ _ _)
   | (with_reducible exact ih1 _ _ _ _)
   | (with_reducible exact incipitref15_Less.mono _ _ _ _)
   | (with_reducible exact LeO.refl _)
   | (with_reducible exact LeO.none _)
   | (with_reducible refine LeO.ite ?_ ?_)
   | (with_reducible refine LeO.bind ?_ (fun _ => ?_))
   | exact ih0 _ _ _
   | exact ih1 _ _ _ _
   | exact incipitref15_Less.mono _ _ _ _
   | exact LeO.none _
   | refine LeO.ite ?_ ?_
   | refine LeO.bind ?_ (fun _ => ?_)
  ·intro y0 y1 y2 y3
   unfold incipitref15_Sort.l1
   repeat' first
   | (with_reducible exact ih0 _ _ _)
   | (with_reducible exact ih1 _ _ _ _)
   | (with_reducible exact incipitref15_Less.mono _ _ _ _)
   | (with_reducible exact LeO.refl _)
   | (with_reducible exact LeO.none _)
   | (with_reducible refine LeO.ite ?_ ?_)
   | (with_reducible refine LeO.bind ?_ (fun _ => ?_))
   | exact ih0 _ _ _
   | exact ih1 _ _ _ _
   | exact incipitref15_Less.mono _ _ _ _
   | exact LeO.none _
   | refine LeO.ite ?_ ?_
   | refine LeO.bind ?_ (fun _ => ?_)
theorem incipitref15_Sort.mono : ∀ a0 k, LeO (incipitref15_Sort.f k a0) (incipitref15_Sort.f (k + 1) a0) := by
 intro a0 k
 obtain ⟨ih0, ih1⟩ := incipitref15_Sort.mono_l k
 unfold incipitref15_Sort.f
 repeat' first
   | (with_reducible exact ih0 _ _ _)
   | (with_reducible exact ih1 _ _ _ _)
   | (with_reducible exact incipitref15_Less.mono _ _ _ _)
   | (with_reducible exact LeO.refl _)
   | (with_reducible exact LeO.none _)
   | (with_reducible refine LeO.ite ?_ ?_)
   | (with_reducible refine LeO.bind ?_ (fun _ => ?_))
   | exact ih0 _ _ _
   | exact ih1 _ _ _ _
   | exact incipitref15_Less.mono _ _ _ _
   | exact LeO.none _
   | refine LeO.ite ?_ ?_
   | refine LeO.bind ?_ (fun _ => ?_)
set_option maxHeartbeats 8000000 in
set_option maxRecDepth 100000 in
theorem incipitref15_Sort.calls (k : Nat) (A0 : Option Addr) (c0 : Nat) (l0 : List Int) (r : List Int) (w : World) (hr0 : Kd.C (Kd.int .i64) w A0 l0.length l0) (hc0 : l0.length ≤ c0) (h : incipitref15_Sort.f k l0 = some r) :
  Calls Try.prog 26 #[.slice A0 l0.length c0] w fun e w' => ∃ v0_ : Value, e = .returned (v0_) ∧ Kd.R (Kd.int .i64) 3 w' w.heap.size (fun _ => True) v0_ r ∧ Below w.heap.size w w' := by
 have HR0 := Aside0.mk hr0
 have HC0 := Aside0.mk hc0
 clear hr0 hc0
 have HB := Aside0.mk (Below.refl w.heap.size w)
 have H : (incipitref15_Sort.l0 k l0 ([] : List Int) 0) = some r := h
 clear h
 have H' := Aside0.mk H
 clear H
 go_enter Try.func26, Try.ntmps26
 go_wp2
 go_loopg [3, 4] k (fun kq v3 v4 w' => ∃ (x3_1 : List Int) (x4_1 : Int), v4 = .int .i64 x4_1 ∧ Aside0 (incipitref15_Sort.l0 kq l0 x3_1 x4_1 = some r) ∧ Aside0 (kq ≤ k) ∧ Aside0 (Kd.R (Kd.int .i64) 3 w' w.heap.size (fun _ => True) v3 x3_1) ∧ Aside0 (Below w.heap.size w w'))
 case atStart => exact ⟨(([] : List Int)), (0), (by first | rfl | (simp; done) | (simp [*]; done)), H', ⟨Nat.le_refl _⟩, ⟨by first | exact Kd.R_nil _ _ _ _ _ | exact Kd.N_nil _ _ _ _ _ | exact Kd.V_nil _ _ _ _ _ | exact Kd.Q_nil _ _ _ _ _ | exact Kd.S_nil _ _ _ _ _⟩, ⟨by repeat (first | (with_reducible first | exact HB.out | apply below_alloc | apply pw_below_drewN | apply below_drew1) | exact HB.out)⟩⟩
 case round =>
  clear H'
  obtain ⟨x3_1, x4_1, rfl, HA, HK1, HO_3, HB⟩ := hrel
  cases gk with
  | zero => exact absurd HA.out (by simp [incipitref15_Sort.l0])
  | succ k1 =>
   have H := HA.out
   clear HA
   simp only [incipitref15_Sort.l0] at H
   by_cases c2 : x4_1 < (l0.length : Int)
   ·rw [if_pos c2] at H
    have c2b0 : decide (x4_1 < (l0.length : Int)) = true := decide_eq_true c2
    clear c2
    have H' := Aside0.mk H
    clear H
    go_wp2
    go_loopg [5] k1 (fun kq v5 w' => ∃ (x5_2 : Int), v5 = .int .i64 x5_2 ∧ Aside0 (incipitref15_Sort.l1 kq l0 x3_1 x4_1 x5_2 = some r) ∧ Aside0 (kq ≤ k1) ∧ Aside0 (Kd.R (Kd.int .i64) 3 w' w.heap.size (fun _ => True) u3 x3_1) ∧ Aside0 (Below w.heap.size w w'))
    case atStart => exact ⟨(0), (by first | rfl | (simp; done) | (simp [*]; done)), H', ⟨Nat.le_refl _⟩, ⟨by (with_reducible repeat (first | apply Kd.R_alloc | apply Kd.R_drewN | apply Kd.R_drew)); exact HO_3.out⟩, ⟨by repeat (first | (with_reducible first | exact HB.out | apply below_alloc | apply pw_below_drewN | apply below_drew1) | exact HB.out)⟩⟩
    case round =>
     clear H'
     try clear c2
     try clear c2b0
     try clear p2
     obtain ⟨x5_2, rfl, HA, HK2, HO_3, HB⟩ := hrel
     cases gk with
     | zero => exact absurd HA.out (by simp [incipitref15_Sort.l1])
     | succ k2 =>
      have H := HA.out
      clear HA
      simp only [incipitref15_Sort.l1] at H
      by_cases c3 : x5_2 < (x3_1.length : Int)
      ·rw [if_pos c3] at H
       have c3b0 : decide (x5_2 < (x3_1.length : Int)) = true := decide_eq_true c3
       clear c3
       by_cases c4 : 0 ≤ x5_2
       ·rw [if_pos c4] at H
        have c4b0 : decide (0 ≤ x5_2) = true := decide_eq_true c4
        clear c4
        replace H := Option.bind_eq_some_iff.mp H
        obtain ⟨t201, A50, H⟩ := H
        replace H : (if t201 = true then (incipitref15_Sort.l1 k2 l0 x3_1 x4_1 (wrap64 (x5_2 + 1))) else ((some (([] : List Int) : List Int)).bind fun y202 => (if x5_2 ≤ (x3_1.length : Int) then ((some (x3_1.take (x5_2 : Int).toNat : List Int)).bind fun y205 => (if y202.length + y205.length < 17592186044416 then ((some (y202 ++ y205 : List Int)).bind fun y209 => (if y209.length < 17592186044416 then ((some (y209 ++ [x4_1] : List Int)).bind fun y212 => ((some (x3_1.drop (x5_2 : Int).toNat : List Int)).bind fun y215 => (if y212.length + y215.length < 17592186044416 then (incipitref15_Sort.l0 k2 l0 (y212 ++ y215) (wrap64 (x4_1 + 1))) else (none)))) else (none))) else (none))) else (none)))) = some r := H
        have A5 := Aside0.mk A50
        clear A50
        by_cases c6 : t201 = true
        ·subst c6
         have H1 : (incipitref15_Sort.l1 k2 l0 x3_1 x4_1 (wrap64 (x5_2 + 1))) = some r := by rw [if_pos rfl] at H; exact H
         clear H
         have H := H1
         clear H1
         have H' := Aside0.mk H
         clear H
         obtain ⟨Ao7, co7, eo7⟩ := Kd.R_slice HO_3.out
         subst eo7
         have p200 : 0 ≤ (x5_2 : Int) := of_decide_eq_true (by first | (with_reducible assumption) | assumption)
         have q200 : x5_2 < (x3_1.length : Int) := of_decide_eq_true (by first | (with_reducible assumption) | assumption)
         obtain ⟨ad200, e200, hx200_0⟩ := Kd.at_int (Kd.R_reads' HO_3.out).2.2 x5_2 p200 q200
         cases e200
         replace p200 := eq_true p200
         replace q200 := eq_true q200
         go_wp2_with (first | (go_at_call 31; (with_reducible refine (incipitref15_Less.calls k2 _ _ l0 (rd x3_1 x5_2) x4_1 true _ ?side1 ?side2 A5.out).mono ?_); (case side1 => repeat (first | exact (Kd.C_below HR0.out HB.out) | (with_reducible refine Kd.C_alloc ?_ _) | (with_reducible refine Kd.C_drewN ?_ _) | (with_reducible refine Kd.C_drew ?_))); (case side2 => exact HC0.out); rintro e w' ⟨rfl, ⟨nd, rfl⟩⟩))
         go_roundg k2
         case measure => have := HK1.out; have := HK2.out; omega
         case rel => exact ⟨(wrap64 (x5_2 + 1)), (by first | rfl | (simp; done) | (simp [*]; done)), H', ⟨by have := HK1.out; have := HK2.out; omega⟩, ⟨by (with_reducible repeat (first | apply Kd.R_alloc | apply Kd.R_drewN | apply Kd.R_drew)); exact HO_3.out⟩, ⟨by repeat (first | (with_reducible first | exact HB.out | apply below_alloc | apply pw_below_drewN | apply below_drew1) | exact HB.out)⟩⟩
        ·replace c6 := Bool.eq_false_iff.mpr c6
         subst c6
         have H1 : ((some (([] : List Int) : List Int)).bind fun y202 => (if x5_2 ≤ (x3_1.length : Int) then ((some (x3_1.take (x5_2 : Int).toNat : List Int)).bind fun y205 => (if y202.length + y205.length < 17592186044416 then ((some (y202 ++ y205 : List Int)).bind fun y209 => (if y209.length < 17592186044416 then ((some (y209 ++ [x4_1] : List Int)).bind fun y212 => ((some (x3_1.drop (x5_2 : Int).toNat : List Int)).bind fun y215 => (if y212.length + y215.length < 17592186044416 then (incipitref15_Sort.l0 k2 l0 (y212 ++ y215) (wrap64 (x4_1 + 1))) else (none)))) else (none))) else (none))) else (none))) = some r := by rw [if_neg (show ¬ (false = true) by decide)] at H; exact H
         clear H
         have H := H1
         clear H1
         obtain ⟨y202, hy202⟩ : ∃ y_ : List Int, y_ = (([] : List Int)) := ⟨_, rfl⟩
         replace H : (if x5_2 ≤ (x3_1.length : Int) then ((some (x3_1.take (x5_2 : Int).toNat : List Int)).bind fun y205 => (if y202.length + y205.length < 17592186044416 then ((some (y202 ++ y205 : List Int)).bind fun y209 => (if y209.length < 17592186044416 then ((some (y209 ++ [x4_1] : List Int)).bind fun y212 => ((some (x3_1.drop (x5_2 : Int).toNat : List Int)).bind fun y215 => (if y212.length + y215.length < 17592186044416 then (incipitref15_Sort.l0 k2 l0 (y212 ++ y215) (wrap64 (x4_1 + 1))) else (none)))) else (none))) else (none))) else (none)) = some r := by first | (rw [hy202]; with_reducible exact H) | (have H2_ := (Option.bind_some _ _).symm.trans H; rw [hy202]; with_reducible exact H2_) | (have H2_ := (Option.bind_some _ _).symm.trans H; with_reducible exact H2_) | with_reducible exact H | (rw [hy202]; exact H) | exact H
         have Ny202 := Aside0.mk hy202
         clear hy202
         have c8b0 := eq_true (of_decide_eq_true (by first | (with_reducible assumption) | assumption) : 0 ≤ x5_2)
         by_cases c9 : x5_2 ≤ (x3_1.length : Int)
         ·rw [if_pos c9] at H
          have c9b0 := eq_true c9
          have c9b1 : decide (x5_2 ≤ (x3_1.length : Int)) = true := decide_eq_true c9
          clear c9
          obtain ⟨y205, hy205⟩ : ∃ y_ : List Int, y_ = (x3_1.take (x5_2 : Int).toNat) := ⟨_, rfl⟩
          replace H : (if y202.length + y205.length < 17592186044416 then ((some (y202 ++ y205 : List Int)).bind fun y209 => (if y209.length < 17592186044416 then ((some (y209 ++ [x4_1] : List Int)).bind fun y212 => ((some (x3_1.drop (x5_2 : Int).toNat : List Int)).bind fun y215 => (if y212.length + y215.length < 17592186044416 then (incipitref15_Sort.l0 k2 l0 (y212 ++ y215) (wrap64 (x4_1 + 1))) else (none)))) else (none))) else (none)) = some r := by first | (rw [hy205]; with_reducible exact H) | (have H2_ := (Option.bind_some _ _).symm.trans H; rw [hy205]; with_reducible exact H2_) | (have H2_ := (Option.bind_some _ _).symm.trans H; with_reducible exact H2_) | with_reducible exact H | (rw [hy205]; exact H) | exact H
          have Ny205 := Aside0.mk hy205
          clear hy205
          by_cases c10 : y202.length + y205.length < 17592186044416
          ·rw [if_pos c10] at H
           have LMc10 := Aside0.mk c10
           clear c10
           obtain ⟨y209, hy209⟩ : ∃ y_ : List Int, y_ = (y202 ++ y205) := ⟨_, rfl⟩
           replace H : (if y209.length < 17592186044416 then ((some (y209 ++ [x4_1] : List Int)).bind fun y212 => ((some (x3_1.drop (x5_2 : Int).toNat : List Int)).bind fun y215 => (if y212.length + y215.length < 17592186044416 then (incipitref15_Sort.l0 k2 l0 (y212 ++ y215) (wrap64 (x4_1 + 1))) else (none)))) else (none)) = some r := by first | (rw [hy209]; with_reducible exact H) | (have H2_ := (Option.bind_some _ _).symm.trans H; rw [hy209]; with_reducible exact H2_) | (have H2_ := (Option.bind_some _ _).symm.trans H; with_reducible exact H2_) | with_reducible exact H | (rw [hy209]; exact H) | exact H
           have Ny209 := Aside0.mk hy209
           clear hy209
           by_cases c11 : y209.length < 17592186044416
           ·rw [if_pos c11] at H
            have LMc11 := Aside0.mk c11
            clear c11
            obtain ⟨y212, hy212⟩ : ∃ y_ : List Int, y_ = (y209 ++ [x4_1]) := ⟨_, rfl⟩
            replace H : ((some (x3_1.drop (x5_2 : Int).toNat : List Int)).bind fun y215 => (if y212.length + y215.length < 17592186044416 then (incipitref15_Sort.l0 k2 l0 (y212 ++ y215) (wrap64 (x4_1 + 1))) else (none))) = some r := by first | (rw [hy212]; with_reducible exact H) | (have H2_ := (Option.bind_some _ _).symm.trans H; rw [hy212]; with_reducible exact H2_) | (have H2_ := (Option.bind_some _ _).symm.trans H; with_reducible exact H2_) | with_reducible exact H | (rw [hy212]; exact H) | exact H
            have Ny212 := Aside0.mk hy212
            clear hy212
            have c12b0 := eq_true (of_decide_eq_true (by first | (with_reducible assumption) | assumption) : 0 ≤ x5_2)
            have c13b0 := eq_true (of_decide_eq_true (by first | (with_reducible assumption) | assumption) : x5_2 ≤ (x3_1.length : Int))
            obtain ⟨y215, hy215⟩ : ∃ y_ : List Int, y_ = (x3_1.drop (x5_2 : Int).toNat) := ⟨_, rfl⟩
            replace H : (if y212.length + y215.length < 17592186044416 then (incipitref15_Sort.l0 k2 l0 (y212 ++ y215) (wrap64 (x4_1 + 1))) else (none)) = some r := by first | (rw [hy215]; with_reducible exact H) | (have H2_ := (Option.bind_some _ _).symm.trans H; rw [hy215]; with_reducible exact H2_) | (have H2_ := (Option.bind_some _ _).symm.trans H; with_reducible exact H2_) | with_reducible exact H | (rw [hy215]; exact H) | exact H
            have Ny215 := Aside0.mk hy215
            clear hy215
            by_cases c14 : y212.length + y215.length < 17592186044416
            ·rw [if_pos c14] at H
             have LMc14 := Aside0.mk c14
             clear c14
             obtain ⟨y219, hy219⟩ : ∃ y_ : List Int, y_ = (y212 ++ y215) := ⟨_, rfl⟩
             replace H : (incipitref15_Sort.l0 k2 l0 y219 (wrap64 (x4_1 + 1))) = some r := by first | (rw [hy219]; with_reducible exact H) | (have H2_ := (Option.bind_some _ _).symm.trans H; rw [hy219]; with_reducible exact H2_) | (have H2_ := (Option.bind_some _ _).symm.trans H; with_reducible exact H2_) | with_reducible exact H | (rw [hy219]; exact H) | exact H
             have Ny219 := Aside0.mk hy219
             clear hy219
             have H' := Aside0.mk H
             clear H
             obtain ⟨Ao15, co15, eo15⟩ := Kd.R_slice HO_3.out
             subst eo15
             have p200 : 0 ≤ (x5_2 : Int) := of_decide_eq_true (by first | (with_reducible assumption) | assumption)
             have q200 : x5_2 < (x3_1.length : Int) := of_decide_eq_true (by first | (with_reducible assumption) | assumption)
             obtain ⟨ad200, e200, hx200_0⟩ := Kd.at_int (Kd.R_reads' HO_3.out).2.2 x5_2 p200 q200
             cases e200
             replace p200 := eq_true p200
             replace q200 := eq_true q200
             go_wp2_with (first | (go_at_call 31; (with_reducible refine (incipitref15_Less.calls k2 _ _ l0 (rd x3_1 x5_2) x4_1 false _ ?side1 ?side2 A5.out).mono ?_); (case side1 => repeat (first | exact (Kd.C_below HR0.out HB.out) | (with_reducible refine Kd.C_alloc ?_ _) | (with_reducible refine Kd.C_drewN ?_ _) | (with_reducible refine Kd.C_drew ?_))); (case side2 => exact HC0.out); rintro e w' ⟨rfl, ⟨nd, rfl⟩⟩) | ((with_reducible refine gate_dst (N := 28) rfl ?_); refine Kd.R_lit (Kd.int .i64) _ 3 ?hg (N := 28) ?hd (xs := ([] : List Int)) (inner := []) (ok := fun _ => True) (okp := fun _ => True) ?hr ?hp (fun _ hk => hk) trivial (Below.refl _ _) (Nat.le_refl _) (by simp) ?_; (case hd => rfl); (case hg => rfl); (case hr => first | (go_simp; done) | (go_simp; rfl)); (case hp => exact (Reps.none _ _)); intro v203 w16 ho17 hb hg_ hnew_; clear hg_ hnew_; (first | rw [← Ny202.out] at ho17 | (simp only [Int.reduceToNat] at ho17; rw [← Ny202.out] at ho17)); have n0_ := Aside0.mk (Kd.R_elder' (by (with_reducible repeat (first | apply Kd.R_alloc | apply Kd.R_drewN | apply Kd.R_drew)); exact HO_3.out) (Kd.R_base ho17) hb); have n1_ := Aside0.mk (Kd.R_lower (Kd.R_new' ho17 (Kd.R_lt (by (with_reducible repeat (first | apply Kd.R_alloc | apply Kd.R_drewN | apply Kd.R_drew)); exact HO_3.out))) (below_size (by repeat (first | (with_reducible first | exact HB.out | apply below_alloc | apply pw_below_drewN | apply below_drew1) | exact HB.out)))); have n2_ := Aside0.mk (below_step (by repeat (first | (with_reducible first | exact HB.out | apply below_alloc | apply pw_below_drewN | apply below_drew1) | exact HB.out)) hb); clear HO_3; clear HB; have HO_3 := n0_; have HO204 := n1_; have HB := n2_; clear n0_ n1_ n2_; clear hb ho17; have q18 : (x5_2 : Int) ≤ ((x3_1.length : Int) : Int) := of_decide_eq_true (by first | (with_reducible assumption) | assumption); obtain ⟨i018, hi018, _, hsz18, _⟩ := info_parts info3; have hroom18 : x3_1.length ≤ co15 := (Kd.R_reads' HO_3.out).2.1; have hC18 : Kd.C (Kd.int .i64) _ (some ad200) x3_1.length x3_1 := (Kd.R_reads' HO_3.out).2.2; have hcut18 := cut_to (P := Try.prog) 22 3 .i64 Try.underlying22 hi018 (some ad200) x3_1.length co15 x5_2 (of_decide_eq_true (by first | (with_reducible assumption) | assumption)) q18 hroom18; have hr18 := Kd.C_take (m := (x5_2 : Int).toNat) hC18 (by omega); have hy18 : y205.length = (x5_2 : Int).toNat := (by rw [Ny205.out, List.length_take]; omega); rw [← Ny205.out] at hr18; rw [← hy18] at hcut18; have HR208 := Aside0.mk hr18; have HC208 := Aside0.mk (show y205.length ≤ co15 from by omega); clear hr18 hC18 hroom18 hi018 hsz18; have KY18 := Aside0.mk hy18; clear hy18; have KL18 := Aside0.mk (show (x5_2 : Int).toNat ≤ x3_1.length from by omega); replace q18 := eq_true q18) | ((with_reducible refine gate_builtin (b := .append) (xs := #[.tmp 28, .tmp 31]) rfl ?_); at_builtin; refine Kd.R_append_rows (Kd.int .i64) (w0 := w) w.heap.size rfl (.tmp 28) (.tmp 31) 22 3 (.int .i64 0) 8 rfl Try.underlying22 info3 rfl (by decide) (by omega) v203 y202 y205 _ _ _ (fun k_ => some k_ ≠ (.slice (some ad200) x3_1.length co15 : Value).ownBlock) (fun _ => False) rfl rfl ?aO ?aR (fun _ _ h => h) (fun _ h => h.elim) ?aF ?aB ?aS ?aL ?_; (case aR => repeat (first | exact (by repeat (first | (with_reducible exact HR208.out) | (with_reducible refine Kd.C_alloc ?_ _) | (with_reducible refine Kd.C_drewN ?_ _) | (with_reducible refine Kd.C_drew ?_) | exact HR208.out)) | (with_reducible refine Kd.C_alloc ?_ _) | (with_reducible refine Kd.C_drewN ?_ _) | (with_reducible refine Kd.C_drew ?_))); (case aB => exact (by repeat (first | (with_reducible first | exact HB.out | apply below_alloc | apply pw_below_drewN | apply below_drew1) | exact HB.out))); (case aF => exact (fun k_ hk => Kd.fresh' (Kd.R_lt (by (with_reducible repeat (first | apply Kd.R_alloc | apply Kd.R_drewN | apply Kd.R_drew)); exact HO_3.out)) k_ hk)); (case aO => exact (by (with_reducible repeat (first | apply Kd.R_alloc | apply Kd.R_drewN | apply Kd.R_drew)); exact Kd.R_mono HO204.out (fun _ hk => hk.2))); (case aS => exact (below_size (by repeat (first | (with_reducible first | exact HB.out | apply below_alloc | apply pw_below_drewN | apply below_drew1) | exact HB.out)))); (case aL => have := LMc10.out; omega); intro v210 w19 ho hb hg hat; rw [← Ny209.out] at ho; have n0_ := Aside0.mk (Kd.R_after (ok := (fun _ => True)) (by (with_reducible repeat (first | apply Kd.R_alloc | apply Kd.R_drewN | apply Kd.R_drew)); exact HO_3.out) hg hat); have n1_ := Aside0.mk (hb); have n2_ := Aside0.mk ((show Kd.C (Kd.int .i64) w19 (some ad200) y205.length y205 from by rw [Ny205.out]; exact Kd.C_take (m := (x5_2 : Int).toNat) ((Kd.R_reads' (Kd.R_after (ok := (fun _ => True)) (by (with_reducible repeat (first | apply Kd.R_alloc | apply Kd.R_drewN | apply Kd.R_drew)); exact HO_3.out) hg hat)).2.2) KL18.out)); have n3_ := Aside0.mk (ho); clear HO_3; clear HB; clear HR208; clear HO204; have HO_3 := n0_; have HB := n1_; have HR208 := n2_; have HO211 := n3_; clear n0_ n1_ n2_ n3_; clear ho hb hg hat) | ((with_reducible refine gate_builtin (b := .append) (xs := #[.tmp 32, .tmp 34]) rfl ?_); at_builtin; refine Kd.R_append (Kd.int .i64) (w0 := w) w.heap.size rfl (.tmp 32) (.tmp 34) 22 3 (.int .i64 0) 8 rfl Try.underlying22 info3 rfl (by decide) (by omega) v210 y209 x4_1 [.int .i64 x4_1] (fun k_ => some k_ ≠ (.slice (some ad200) x3_1.length co15 : Value).ownBlock) (fun _ => False) rfl rfl ?aP (fun _ hk => hk.elim) ?aF ?aO ?aB ?aS ?aL ?_; (case aP => exact rfl); (case aB => exact (by repeat (first | (with_reducible first | exact HB.out | apply below_alloc | apply pw_below_drewN | apply below_drew1) | exact HB.out))); (case aF => exact (fun k_ hk => Kd.fresh' (Kd.R_lt (by (with_reducible repeat (first | apply Kd.R_alloc | apply Kd.R_drewN | apply Kd.R_drew)); exact HO_3.out)) k_ hk)); (case aO => exact (by (with_reducible repeat (first | apply Kd.R_alloc | apply Kd.R_drewN | apply Kd.R_drew)); exact HO211.out)); (case aS => exact (below_size (by repeat (first | (with_reducible first | exact HB.out | apply below_alloc | apply pw_below_drewN | apply below_drew1) | exact HB.out)))); (case aL => have := LMc11.out; omega); intro v213 w20 ho hb hg hat; rw [← Ny212.out] at ho; have n0_ := Aside0.mk (Kd.R_after (ok := (fun _ => True)) (by (with_reducible repeat (first | apply Kd.R_alloc | apply Kd.R_drewN | apply Kd.R_drew)); exact HO_3.out) hg hat); have n1_ := Aside0.mk (hb); have n2_ := Aside0.mk ((show Kd.C (Kd.int .i64) w20 (some ad200) y205.length y205 from by rw [Ny205.out]; exact Kd.C_take (m := (x5_2 : Int).toNat) ((Kd.R_reads' (Kd.R_after (ok := (fun _ => True)) (by (with_reducible repeat (first | apply Kd.R_alloc | apply Kd.R_drewN | apply Kd.R_drew)); exact HO_3.out) hg hat)).2.2) KL18.out)); have n3_ := Aside0.mk (ho); clear HO_3; clear HB; clear HR208; clear HO211; have HO_3 := n0_; have HB := n1_; have HR208 := n2_; have HO214 := n3_; clear n0_ n1_ n2_ n3_; clear ho hb hg hat; have q21 : (x5_2 : Int) ≤ ((x3_1.length : Int) : Int) := of_decide_eq_true (by first | (with_reducible assumption) | assumption); obtain ⟨i021, hi021, _, hsz21, _⟩ := info_parts info3; have hroom21 : x3_1.length ≤ co15 := (Kd.R_reads' HO_3.out).2.1; have hC21 : Kd.C (Kd.int .i64) _ (some ad200) x3_1.length x3_1 := (Kd.R_reads' HO_3.out).2.2; have q021 : (0 : Int) ≤ (x5_2 : Int) := of_decide_eq_true (by first | (with_reducible assumption) | assumption); have hcut21 := cut_from (P := Try.prog) 22 3 .i64 Try.underlying22 hi021 1 hsz21 (some ad200) x3_1.length co15 x5_2 q021 q21; have hr21 := Kd.C_drop (m := (x5_2 : Int).toNat) (c := co15) hC21 (by omega) hroom21; obtain ⟨A21, hA21⟩ : ∃ A1, A1 = (if co15 = (x5_2 : Int).toNat then (some ad200) else ((some ad200) : Option Addr).map (·.add ((x5_2 : Int).toNat * 1))) := ⟨_, rfl⟩; obtain ⟨c21, hc21⟩ : ∃ c1, c1 = co15 - (x5_2 : Int).toNat := ⟨_, rfl⟩; have hy21 : y215.length = x3_1.length - (x5_2 : Int).toNat := (by rw [Ny215.out, List.length_drop] <;> omega); rw [show (x3_1).drop (x5_2 : Int).toNat = y215 from Ny215.out.symm] at hr21; replace hr21 : Kd.C (Kd.int .i64) _ A21 y215.length y215 := (by rw [hA21]; exact hr21); rw [← hy21, ← hA21, ← hc21] at hcut21; have HR218 := Aside0.mk hr21; have HC218 := Aside0.mk (show y215.length ≤ c21 from by rw [hy21, hc21]; exact Nat.sub_le_sub_right hroom21 _); clear hr21 hC21 hroom21 hi021 hsz21 hc21; have KY21 := Aside0.mk hy21; have KA21 := Aside0.mk hA21; clear hy21 hA21; have KL21 := Aside0.mk (show (x5_2 : Int).toNat ≤ x3_1.length from by omega); replace q21 := eq_true q21) | ((with_reducible refine gate_builtin (b := .append) (xs := #[.tmp 36, .tmp 39]) rfl ?_); at_builtin; refine Kd.R_append_rows (Kd.int .i64) (w0 := w) w.heap.size rfl (.tmp 36) (.tmp 39) 22 3 (.int .i64 0) 8 rfl Try.underlying22 info3 rfl (by decide) (by omega) v213 y212 y215 _ _ _ (fun k_ => some k_ ≠ (.slice (some ad200) x3_1.length co15 : Value).ownBlock) (fun _ => False) rfl rfl ?aO ?aR (fun _ _ h => h) (fun _ h => h.elim) ?aF ?aB ?aS ?aL ?_; (case aR => repeat (first | exact (by repeat (first | (with_reducible exact HR218.out) | (with_reducible refine Kd.C_alloc ?_ _) | (with_reducible refine Kd.C_drewN ?_ _) | (with_reducible refine Kd.C_drew ?_) | exact HR218.out)) | (with_reducible refine Kd.C_alloc ?_ _) | (with_reducible refine Kd.C_drewN ?_ _) | (with_reducible refine Kd.C_drew ?_))); (case aB => exact (by repeat (first | (with_reducible first | exact HB.out | apply below_alloc | apply pw_below_drewN | apply below_drew1) | exact HB.out))); (case aF => exact (fun k_ hk => Kd.fresh' (Kd.R_lt (by (with_reducible repeat (first | apply Kd.R_alloc | apply Kd.R_drewN | apply Kd.R_drew)); exact HO_3.out)) k_ hk)); (case aO => exact (by (with_reducible repeat (first | apply Kd.R_alloc | apply Kd.R_drewN | apply Kd.R_drew)); exact HO214.out)); (case aS => exact (below_size (by repeat (first | (with_reducible first | exact HB.out | apply below_alloc | apply pw_below_drewN | apply below_drew1) | exact HB.out)))); (case aL => have := LMc14.out; omega); intro v220 w22 ho hb hg hat; rw [← Ny219.out] at ho; have n0_ := Aside0.mk (Kd.R_after (ok := (fun _ => True)) (by (with_reducible repeat (first | apply Kd.R_alloc | apply Kd.R_drewN | apply Kd.R_drew)); exact HO_3.out) hg hat); have n1_ := Aside0.mk (hb); have n2_ := Aside0.mk ((show Kd.C (Kd.int .i64) w22 (some ad200) y205.length y205 from by rw [Ny205.out]; exact Kd.C_take (m := (x5_2 : Int).toNat) ((Kd.R_reads' (Kd.R_after (ok := (fun _ => True)) (by (with_reducible repeat (first | apply Kd.R_alloc | apply Kd.R_drewN | apply Kd.R_drew)); exact HO_3.out) hg hat)).2.2) KL18.out)); have n3_ := Aside0.mk ((show Kd.C (Kd.int .i64) w22 A21 y215.length y215 from by rw [Ny215.out, KA21.out]; exact Kd.C_drop (m := (x5_2 : Int).toNat) (c := co15) ((Kd.R_reads' (Kd.R_after (ok := (fun _ => True)) (by (with_reducible repeat (first | apply Kd.R_alloc | apply Kd.R_drewN | apply Kd.R_drew)); exact HO_3.out) hg hat)).2.2) KL21.out ((Kd.R_reads' (Kd.R_after (ok := (fun _ => True)) (by (with_reducible repeat (first | apply Kd.R_alloc | apply Kd.R_drewN | apply Kd.R_drew)); exact HO_3.out) hg hat)).2.1))); have n4_ := Aside0.mk (ho); clear HO_3; clear HB; clear HR208; clear HR218; clear HO214; have HO_3 := n0_; have HB := n1_; have HR208 := n2_; have HR218 := n3_; have HO221 := n4_; clear n0_ n1_ n2_ n3_ n4_; clear ho hb hg hat))
             go_roundg k2
             case measure => have := HK1.out; have := HK2.out; omega
             case rel => exact ⟨(y219), (wrap64 (x4_1 + 1)), (by first | rfl | (simp; done) | (simp [*]; done)), H', ⟨by have := HK1.out; have := HK2.out; omega⟩, ⟨by (with_reducible repeat (first | apply Kd.R_alloc | apply Kd.R_drewN | apply Kd.R_drew)); exact Kd.R_mono HO221.out (fun _ hk => trivial)⟩, ⟨by repeat (first | (with_reducible first | exact HB.out | apply below_alloc | apply pw_below_drewN | apply below_drew1) | exact HB.out)⟩⟩
            ·rw [if_neg c14] at H
             exact absurd H (by simp)
           ·rw [if_neg c11] at H
            exact absurd H (by simp)
          ·rw [if_neg c10] at H
           exact absurd H (by simp)
         ·rw [if_neg c9] at H
          exact absurd H (by simp)
       ·rw [if_neg c4] at H
        exact absurd H (by simp)
      ·rw [if_neg c3] at H
       have c3b0 : decide (x5_2 < (x3_1.length : Int)) = false := decide_eq_false c3
       clear c3
       obtain ⟨y222, hy222⟩ : ∃ y_ : List Int, y_ = (([] : List Int)) := ⟨_, rfl⟩
       replace H : (if 0 ≤ x5_2 then (if x5_2 ≤ (x3_1.length : Int) then ((some (x3_1.take (x5_2 : Int).toNat : List Int)).bind fun y225 => (if y222.length + y225.length < 17592186044416 then ((some (y222 ++ y225 : List Int)).bind fun y229 => (if y229.length < 17592186044416 then ((some (y229 ++ [x4_1] : List Int)).bind fun y232 => ((some (x3_1.drop (x5_2 : Int).toNat : List Int)).bind fun y235 => (if y232.length + y235.length < 17592186044416 then (incipitref15_Sort.l0 k2 l0 (y232 ++ y235) (wrap64 (x4_1 + 1))) else (none)))) else (none))) else (none))) else (none)) else (none)) = some r := by first | (rw [hy222]; with_reducible exact H) | (have H2_ := (Option.bind_some _ _).symm.trans H; rw [hy222]; with_reducible exact H2_) | (have H2_ := (Option.bind_some _ _).symm.trans H; with_reducible exact H2_) | with_reducible exact H | (rw [hy222]; exact H) | exact H
       have Ny222 := Aside0.mk hy222
       clear hy222
       by_cases c23 : 0 ≤ x5_2
       ·rw [if_pos c23] at H
        have c23b0 := eq_true c23
        have c23b1 : decide (0 ≤ x5_2) = true := decide_eq_true c23
        clear c23
        by_cases c24 : x5_2 ≤ (x3_1.length : Int)
        ·rw [if_pos c24] at H
         have c24b0 := eq_true c24
         have c24b1 : decide (x5_2 ≤ (x3_1.length : Int)) = true := decide_eq_true c24
         clear c24
         obtain ⟨y225, hy225⟩ : ∃ y_ : List Int, y_ = (x3_1.take (x5_2 : Int).toNat) := ⟨_, rfl⟩
         replace H : (if y222.length + y225.length < 17592186044416 then ((some (y222 ++ y225 : List Int)).bind fun y229 => (if y229.length < 17592186044416 then ((some (y229 ++ [x4_1] : List Int)).bind fun y232 => ((some (x3_1.drop (x5_2 : Int).toNat : List Int)).bind fun y235 => (if y232.length + y235.length < 17592186044416 then (incipitref15_Sort.l0 k2 l0 (y232 ++ y235) (wrap64 (x4_1 + 1))) else (none)))) else (none))) else (none)) = some r := by first | (rw [hy225]; with_reducible exact H) | (have H2_ := (Option.bind_some _ _).symm.trans H; rw [hy225]; with_reducible exact H2_) | (have H2_ := (Option.bind_some _ _).symm.trans H; with_reducible exact H2_) | with_reducible exact H | (rw [hy225]; exact H) | exact H
         have Ny225 := Aside0.mk hy225
         clear hy225
         by_cases c25 : y222.length + y225.length < 17592186044416
         ·rw [if_pos c25] at H
          have LMc25 := Aside0.mk c25
          clear c25
          obtain ⟨y229, hy229⟩ : ∃ y_ : List Int, y_ = (y222 ++ y225) := ⟨_, rfl⟩
          replace H : (if y229.length < 17592186044416 then ((some (y229 ++ [x4_1] : List Int)).bind fun y232 => ((some (x3_1.drop (x5_2 : Int).toNat : List Int)).bind fun y235 => (if y232.length + y235.length < 17592186044416 then (incipitref15_Sort.l0 k2 l0 (y232 ++ y235) (wrap64 (x4_1 + 1))) else (none)))) else (none)) = some r := by first | (rw [hy229]; with_reducible exact H) | (have H2_ := (Option.bind_some _ _).symm.trans H; rw [hy229]; with_reducible exact H2_) | (have H2_ := (Option.bind_some _ _).symm.trans H; with_reducible exact H2_) | with_reducible exact H | (rw [hy229]; exact H) | exact H
          have Ny229 := Aside0.mk hy229
          clear hy229
          by_cases c26 : y229.length < 17592186044416
          ·rw [if_pos c26] at H
           have LMc26 := Aside0.mk c26
           clear c26
           obtain ⟨y232, hy232⟩ : ∃ y_ : List Int, y_ = (y229 ++ [x4_1]) := ⟨_, rfl⟩
           replace H : ((some (x3_1.drop (x5_2 : Int).toNat : List Int)).bind fun y235 => (if y232.length + y235.length < 17592186044416 then (incipitref15_Sort.l0 k2 l0 (y232 ++ y235) (wrap64 (x4_1 + 1))) else (none))) = some r := by first | (rw [hy232]; with_reducible exact H) | (have H2_ := (Option.bind_some _ _).symm.trans H; rw [hy232]; with_reducible exact H2_) | (have H2_ := (Option.bind_some _ _).symm.trans H; with_reducible exact H2_) | with_reducible exact H | (rw [hy232]; exact H) | exact H
           have Ny232 := Aside0.mk hy232
           clear hy232
           have c27b0 := eq_true (of_decide_eq_true (by first | (with_reducible assumption) | assumption) : 0 ≤ x5_2)
           have c28b0 := eq_true (of_decide_eq_true (by first | (with_reducible assumption) | assumption) : x5_2 ≤ (x3_1.length : Int))
           obtain ⟨y235, hy235⟩ : ∃ y_ : List Int, y_ = (x3_1.drop (x5_2 : Int).toNat) := ⟨_, rfl⟩
           replace H : (if y232.length + y235.length < 17592186044416 then (incipitref15_Sort.l0 k2 l0 (y232 ++ y235) (wrap64 (x4_1 + 1))) else (none)) = some r := by first | (rw [hy235]; with_reducible exact H) | (have H2_ := (Option.bind_some _ _).symm.trans H; rw [hy235]; with_reducible exact H2_) | (have H2_ := (Option.bind_some _ _).symm.trans H; with_reducible exact H2_) | with_reducible exact H | (rw [hy235]; exact H) | exact H
           have Ny235 := Aside0.mk hy235
           clear hy235
           by_cases c29 : y232.length + y235.length < 17592186044416
           ·rw [if_pos c29] at H
            have LMc29 := Aside0.mk c29
            clear c29
            obtain ⟨y239, hy239⟩ : ∃ y_ : List Int, y_ = (y232 ++ y235) := ⟨_, rfl⟩
            replace H : (incipitref15_Sort.l0 k2 l0 y239 (wrap64 (x4_1 + 1))) = some r := by first | (rw [hy239]; with_reducible exact H) | (have H2_ := (Option.bind_some _ _).symm.trans H; rw [hy239]; with_reducible exact H2_) | (have H2_ := (Option.bind_some _ _).symm.trans H; with_reducible exact H2_) | with_reducible exact H | (rw [hy239]; exact H) | exact H
            have Ny239 := Aside0.mk hy239
            clear hy239
            have H' := Aside0.mk H
            clear H
            obtain ⟨Ao30, co30, eo30⟩ := Kd.R_slice HO_3.out
            subst eo30
            go_wp2_with (first | ((with_reducible refine gate_dst (N := 28) rfl ?_); refine Kd.R_lit (Kd.int .i64) _ 3 ?hg (N := 28) ?hd (xs := ([] : List Int)) (inner := []) (ok := fun _ => True) (okp := fun _ => True) ?hr ?hp (fun _ hk => hk) trivial (Below.refl _ _) (Nat.le_refl _) (by simp) ?_; (case hd => rfl); (case hg => rfl); (case hr => first | (go_simp; done) | (go_simp; rfl)); (case hp => exact (Reps.none _ _)); intro v223 w31 ho32 hb hg_ hnew_; clear hg_ hnew_; (first | rw [← Ny222.out] at ho32 | (simp only [Int.reduceToNat] at ho32; rw [← Ny222.out] at ho32)); have n0_ := Aside0.mk (Kd.R_elder' (by (with_reducible repeat (first | apply Kd.R_alloc | apply Kd.R_drewN | apply Kd.R_drew)); exact HO_3.out) (Kd.R_base ho32) hb); have n1_ := Aside0.mk (Kd.R_lower (Kd.R_new' ho32 (Kd.R_lt (by (with_reducible repeat (first | apply Kd.R_alloc | apply Kd.R_drewN | apply Kd.R_drew)); exact HO_3.out))) (below_size (by repeat (first | (with_reducible first | exact HB.out | apply below_alloc | apply pw_below_drewN | apply below_drew1) | exact HB.out)))); have n2_ := Aside0.mk (below_step (by repeat (first | (with_reducible first | exact HB.out | apply below_alloc | apply pw_below_drewN | apply below_drew1) | exact HB.out)) hb); clear HO_3; clear HB; have HO_3 := n0_; have HO224 := n1_; have HB := n2_; clear n0_ n1_ n2_; clear hb ho32; have q33 : (x5_2 : Int) ≤ ((x3_1.length : Int) : Int) := of_decide_eq_true (by first | (with_reducible assumption) | assumption); obtain ⟨i033, hi033, _, hsz33, _⟩ := info_parts info3; have hroom33 : x3_1.length ≤ co30 := (Kd.R_reads' HO_3.out).2.1; have hC33 : Kd.C (Kd.int .i64) _ Ao30 x3_1.length x3_1 := (Kd.R_reads' HO_3.out).2.2; have hcut33 := cut_to (P := Try.prog) 22 3 .i64 Try.underlying22 hi033 Ao30 x3_1.length co30 x5_2 (of_decide_eq_true (by first | (with_reducible assumption) | assumption)) q33 hroom33; have hr33 := Kd.C_take (m := (x5_2 : Int).toNat) hC33 (by omega); have hy33 : y225.length = (x5_2 : Int).toNat := (by rw [Ny225.out, List.length_take]; omega); rw [← Ny225.out] at hr33; rw [← hy33] at hcut33; have HR228 := Aside0.mk hr33; have HC228 := Aside0.mk (show y225.length ≤ co30 from by omega); clear hr33 hC33 hroom33 hi033 hsz33; have KY33 := Aside0.mk hy33; clear hy33; have KL33 := Aside0.mk (show (x5_2 : Int).toNat ≤ x3_1.length from by omega); replace q33 := eq_true q33) | ((with_reducible refine gate_builtin (b := .append) (xs := #[.tmp 28, .tmp 31]) rfl ?_); at_builtin; refine Kd.R_append_rows (Kd.int .i64) (w0 := w) w.heap.size rfl (.tmp 28) (.tmp 31) 22 3 (.int .i64 0) 8 rfl Try.underlying22 info3 rfl (by decide) (by omega) v223 y222 y225 _ _ _ (fun k_ => some k_ ≠ (.slice Ao30 x3_1.length co30 : Value).ownBlock) (fun _ => False) rfl rfl ?aO ?aR (fun _ _ h => h) (fun _ h => h.elim) ?aF ?aB ?aS ?aL ?_; (case aR => repeat (first | exact (by repeat (first | (with_reducible exact HR228.out) | (with_reducible refine Kd.C_alloc ?_ _) | (with_reducible refine Kd.C_drewN ?_ _) | (with_reducible refine Kd.C_drew ?_) | exact HR228.out)) | (with_reducible refine Kd.C_alloc ?_ _) | (with_reducible refine Kd.C_drewN ?_ _) | (with_reducible refine Kd.C_drew ?_))); (case aB => exact (by repeat (first | (with_reducible first | exact HB.out | apply below_alloc | apply pw_below_drewN | apply below_drew1) | exact HB.out))); (case aF => exact (fun k_ hk => Kd.fresh' (Kd.R_lt (by (with_reducible repeat (first | apply Kd.R_alloc | apply Kd.R_drewN | apply Kd.R_drew)); exact HO_3.out)) k_ hk)); (case aO => exact (by (with_reducible repeat (first | apply Kd.R_alloc | apply Kd.R_drewN | apply Kd.R_drew)); exact Kd.R_mono HO224.out (fun _ hk => hk.2))); (case aS => exact (below_size (by repeat (first | (with_reducible first | exact HB.out | apply below_alloc | apply pw_below_drewN | apply below_drew1) | exact HB.out)))); (case aL => have := LMc25.out; omega); intro v230 w34 ho hb hg hat; rw [← Ny229.out] at ho; have n0_ := Aside0.mk (Kd.R_after (ok := (fun _ => True)) (by (with_reducible repeat (first | apply Kd.R_alloc | apply Kd.R_drewN | apply Kd.R_drew)); exact HO_3.out) hg hat); have n1_ := Aside0.mk (hb); have n2_ := Aside0.mk ((show Kd.C (Kd.int .i64) w34 Ao30 y225.length y225 from by rw [Ny225.out]; exact Kd.C_take (m := (x5_2 : Int).toNat) ((Kd.R_reads' (Kd.R_after (ok := (fun _ => True)) (by (with_reducible repeat (first | apply Kd.R_alloc | apply Kd.R_drewN | apply Kd.R_drew)); exact HO_3.out) hg hat)).2.2) KL33.out)); have n3_ := Aside0.mk (ho); clear HO_3; clear HB; clear HR228; clear HO224; have HO_3 := n0_; have HB := n1_; have HR228 := n2_; have HO231 := n3_; clear n0_ n1_ n2_ n3_; clear ho hb hg hat) | ((with_reducible refine gate_builtin (b := .append) (xs := #[.tmp 32, .tmp 34]) rfl ?_); at_builtin; refine Kd.R_append (Kd.int .i64) (w0 := w) w.heap.size rfl (.tmp 32) (.tmp 34) 22 3 (.int .i64 0) 8 rfl Try.underlying22 info3 rfl (by decide) (by omega) v230 y229 x4_1 [.int .i64 x4_1] (fun k_ => some k_ ≠ (.slice Ao30 x3_1.length co30 : Value).ownBlock) (fun _ => False) rfl rfl ?aP (fun _ hk => hk.elim) ?aF ?aO ?aB ?aS ?aL ?_; (case aP => exact rfl); (case aB => exact (by repeat (first | (with_reducible first | exact HB.out | apply below_alloc | apply pw_below_drewN | apply below_drew1) | exact HB.out))); (case aF => exact (fun k_ hk => Kd.fresh' (Kd.R_lt (by (with_reducible repeat (first | apply Kd.R_alloc | apply Kd.R_drewN | apply Kd.R_drew)); exact HO_3.out)) k_ hk)); (case aO => exact (by (with_reducible repeat (first | apply Kd.R_alloc | apply Kd.R_drewN | apply Kd.R_drew)); exact HO231.out)); (case aS => exact (below_size (by repeat (first | (with_reducible first | exact HB.out | apply below_alloc | apply pw_below_drewN | apply below_drew1) | exact HB.out)))); (case aL => have := LMc26.out; omega); intro v233 w35 ho hb hg hat; rw [← Ny232.out] at ho; have n0_ := Aside0.mk (Kd.R_after (ok := (fun _ => True)) (by (with_reducible repeat (first | apply Kd.R_alloc | apply Kd.R_drewN | apply Kd.R_drew)); exact HO_3.out) hg hat); have n1_ := Aside0.mk (hb); have n2_ := Aside0.mk ((show Kd.C (Kd.int .i64) w35 Ao30 y225.length y225 from by rw [Ny225.out]; exact Kd.C_take (m := (x5_2 : Int).toNat) ((Kd.R_reads' (Kd.R_after (ok := (fun _ => True)) (by (with_reducible repeat (first | apply Kd.R_alloc | apply Kd.R_drewN | apply Kd.R_drew)); exact HO_3.out) hg hat)).2.2) KL33.out)); have n3_ := Aside0.mk (ho); clear HO_3; clear HB; clear HR228; clear HO231; have HO_3 := n0_; have HB := n1_; have HR228 := n2_; have HO234 := n3_; clear n0_ n1_ n2_ n3_; clear ho hb hg hat; have q36 : (x5_2 : Int) ≤ ((x3_1.length : Int) : Int) := of_decide_eq_true (by first | (with_reducible assumption) | assumption); obtain ⟨i036, hi036, _, hsz36, _⟩ := info_parts info3; have hroom36 : x3_1.length ≤ co30 := (Kd.R_reads' HO_3.out).2.1; have hC36 : Kd.C (Kd.int .i64) _ Ao30 x3_1.length x3_1 := (Kd.R_reads' HO_3.out).2.2; have q036 : (0 : Int) ≤ (x5_2 : Int) := of_decide_eq_true (by first | (with_reducible assumption) | assumption); have hcut36 := cut_from (P := Try.prog) 22 3 .i64 Try.underlying22 hi036 1 hsz36 Ao30 x3_1.length co30 x5_2 q036 q36; have hr36 := Kd.C_drop (m := (x5_2 : Int).toNat) (c := co30) hC36 (by omega) hroom36; obtain ⟨A36, hA36⟩ : ∃ A1, A1 = (if co30 = (x5_2 : Int).toNat then Ao30 else (Ao30 : Option Addr).map (·.add ((x5_2 : Int).toNat * 1))) := ⟨_, rfl⟩; obtain ⟨c36, hc36⟩ : ∃ c1, c1 = co30 - (x5_2 : Int).toNat := ⟨_, rfl⟩; have hy36 : y235.length = x3_1.length - (x5_2 : Int).toNat := (by rw [Ny235.out, List.length_drop] <;> omega); rw [show (x3_1).drop (x5_2 : Int).toNat = y235 from Ny235.out.symm] at hr36; replace hr36 : Kd.C (Kd.int .i64) _ A36 y235.length y235 := (by rw [hA36]; exact hr36); rw [← hy36, ← hA36, ← hc36] at hcut36; have HR238 := Aside0.mk hr36; have HC238 := Aside0.mk (show y235.length ≤ c36 from by rw [hy36, hc36]; exact Nat.sub_le_sub_right hroom36 _); clear hr36 hC36 hroom36 hi036 hsz36 hc36; have KY36 := Aside0.mk hy36; have KA36 := Aside0.mk hA36; clear hy36 hA36; have KL36 := Aside0.mk (show (x5_2 : Int).toNat ≤ x3_1.length from by omega); replace q36 := eq_true q36) | ((with_reducible refine gate_builtin (b := .append) (xs := #[.tmp 36, .tmp 39]) rfl ?_); at_builtin; refine Kd.R_append_rows (Kd.int .i64) (w0 := w) w.heap.size rfl (.tmp 36) (.tmp 39) 22 3 (.int .i64 0) 8 rfl Try.underlying22 info3 rfl (by decide) (by omega) v233 y232 y235 _ _ _ (fun k_ => some k_ ≠ (.slice Ao30 x3_1.length co30 : Value).ownBlock) (fun _ => False) rfl rfl ?aO ?aR (fun _ _ h => h) (fun _ h => h.elim) ?aF ?aB ?aS ?aL ?_; (case aR => repeat (first | exact (by repeat (first | (with_reducible exact HR238.out) | (with_reducible refine Kd.C_alloc ?_ _) | (with_reducible refine Kd.C_drewN ?_ _) | (with_reducible refine Kd.C_drew ?_) | exact HR238.out)) | (with_reducible refine Kd.C_alloc ?_ _) | (with_reducible refine Kd.C_drewN ?_ _) | (with_reducible refine Kd.C_drew ?_))); (case aB => exact (by repeat (first | (with_reducible first | exact HB.out | apply below_alloc | apply pw_below_drewN | apply below_drew1) | exact HB.out))); (case aF => exact (fun k_ hk => Kd.fresh' (Kd.R_lt (by (with_reducible repeat (first | apply Kd.R_alloc | apply Kd.R_drewN | apply Kd.R_drew)); exact HO_3.out)) k_ hk)); (case aO => exact (by (with_reducible repeat (first | apply Kd.R_alloc | apply Kd.R_drewN | apply Kd.R_drew)); exact HO234.out)); (case aS => exact (below_size (by repeat (first | (with_reducible first | exact HB.out | apply below_alloc | apply pw_below_drewN | apply below_drew1) | exact HB.out)))); (case aL => have := LMc29.out; omega); intro v240 w37 ho hb hg hat; rw [← Ny239.out] at ho; have n0_ := Aside0.mk (Kd.R_after (ok := (fun _ => True)) (by (with_reducible repeat (first | apply Kd.R_alloc | apply Kd.R_drewN | apply Kd.R_drew)); exact HO_3.out) hg hat); have n1_ := Aside0.mk (hb); have n2_ := Aside0.mk ((show Kd.C (Kd.int .i64) w37 Ao30 y225.length y225 from by rw [Ny225.out]; exact Kd.C_take (m := (x5_2 : Int).toNat) ((Kd.R_reads' (Kd.R_after (ok := (fun _ => True)) (by (with_reducible repeat (first | apply Kd.R_alloc | apply Kd.R_drewN | apply Kd.R_drew)); exact HO_3.out) hg hat)).2.2) KL33.out)); have n3_ := Aside0.mk ((show Kd.C (Kd.int .i64) w37 A36 y235.length y235 from by rw [Ny235.out, KA36.out]; exact Kd.C_drop (m := (x5_2 : Int).toNat) (c := co30) ((Kd.R_reads' (Kd.R_after (ok := (fun _ => True)) (by (with_reducible repeat (first | apply Kd.R_alloc | apply Kd.R_drewN | apply Kd.R_drew)); exact HO_3.out) hg hat)).2.2) KL36.out ((Kd.R_reads' (Kd.R_after (ok := (fun _ => True)) (by (with_reducible repeat (first | apply Kd.R_alloc | apply Kd.R_drewN | apply Kd.R_drew)); exact HO_3.out) hg hat)).2.1))); have n4_ := Aside0.mk (ho); clear HO_3; clear HB; clear HR228; clear HR238; clear HO234; have HO_3 := n0_; have HB := n1_; have HR228 := n2_; have HR238 := n3_; have HO241 := n4_; clear n0_ n1_ n2_ n3_ n4_; clear ho hb hg hat))
            go_roundg k2
            case measure => have := HK1.out; have := HK2.out; omega
            case rel => exact ⟨(y239), (wrap64 (x4_1 + 1)), (by first | rfl | (simp; done) | (simp [*]; done)), H', ⟨by have := HK1.out; have := HK2.out; omega⟩, ⟨by (with_reducible repeat (first | apply Kd.R_alloc | apply Kd.R_drewN | apply Kd.R_drew)); exact Kd.R_mono HO241.out (fun _ hk => trivial)⟩, ⟨by repeat (first | (with_reducible first | exact HB.out | apply below_alloc | apply pw_below_drewN | apply below_drew1) | exact HB.out)⟩⟩
           ·rw [if_neg c29] at H
            exact absurd H (by simp)
          ·rw [if_neg c26] at H
           exact absurd H (by simp)
         ·rw [if_neg c25] at H
          exact absurd H (by simp)
        ·rw [if_neg c24] at H
         exact absurd H (by simp)
       ·rw [if_neg c23] at H
        exact absurd H (by simp)
   ·rw [if_neg c2] at H
    have c2b0 : decide (x4_1 < (l0.length : Int)) = false := decide_eq_false c2
    clear c2
    obtain rfl := Option.some.inj H
    go_wp2
    go_ret
    exact ⟨_, by first | rfl | (simp [errW_none, errW_some] <;> rfl) | (simp [*, errW_none, errW_some] <;> rfl), by (with_reducible repeat (first | apply Kd.R_alloc | apply Kd.R_drewN | apply Kd.R_drew)); exact HO_3.out, by repeat (first | (with_reducible first | exact HB.out | apply below_alloc | apply pw_below_drewN | apply below_drew1) | exact HB.out)⟩

/-! ### suffix_common: function 56 -/
def suffix_common.l0 : Nat → List Int → Int → Int → Int → Option (Int)
 | 0, _, _, _, _ => none
 | k + 1, x0, x1, x2, x7 => if (wrap64 ((mx x1 x2) + x7)) < (x0.length : Int) then (if 0 ≤ (wrap64 (x1 + x7)) then (if (wrap64 (x1 + x7)) < (x0.length : Int) then (if 0 ≤ (wrap64 (x2 + x7)) then (if (wrap64 (x2 + x7)) < (x0.length : Int) then (if (rd x0 (wrap64 (x1 + x7))) = (rd x0 (wrap64 (x2 + x7))) then (suffix_common.l0 k x0 x1 x2 (wrap64 (x7 + 1))) else (some x7)) else (none)) else (none)) else (none)) else (none)) else (some x7)
def suffix_common.f (k : Nat) (l0 : List Int) (a1 : Int) (a2 : Int) : Option (Int) := suffix_common.l0 k l0 a1 a2 0
theorem suffix_common.mono_l : ∀ k, (∀ y0 y1 y2 y3, LeO (suffix_common.l0 k y0 y1 y2 y3) (suffix_common.l0 (k + 1) y0 y1 y2 y3))
 | 0 => fun _ _ _ _ r h => by simp [suffix_common.l0] at h
 | k + 1 => by
  have ih0 := suffix_common.mono_l k
  ·intro y0 y1 y2 y3
   unfold suffix_common.l0
   repeat' first
   | (with_reducible exact ih0 _ _ _ _)
   | (with_reducible exact LeO.refl _)
   | (with_reducible exact LeO.none _)
   | (with_reducible refine LeO.ite ?_ ?_)
   | (with_reducible refine LeO.bind ?_ (fun _ => ?_))
   | exact ih0 _ _ _ _
   | exact LeO.none _
   | refine LeO.ite ?_ ?_
   | refine LeO.bind ?_ (fun _ => ?_)
theorem suffix_common.mono : ∀ a0 a1 a2 k, LeO (suffix_common.f k a0 a1 a2) (suffix_common.f (k + 1) a0 a1 a2) := by
 intro a0 a1 a2 k
 have ih0 := suffix_common.mono_l k
 unfold suffix_common.f
 repeat' first
   | (with_reducible exact ih0 _ _ _ _)
   | (with_reducible exact LeO.refl _)
   | (with_reducible exact LeO.none _)
   | (with_reducible refine LeO.ite ?_ ?_)
   | (with_reducible refine LeO.bind ?_ (fun _ => ?_))
   | exact ih0 _ _ _ _
   | exact LeO.none _
   | refine LeO.ite ?_ ?_
   | refine LeO.bind ?_ (fun _ => ?_)
set_option maxHeartbeats 8000000 in
set_option maxRecDepth 100000 in
theorem suffix_common.calls (k : Nat) (A0 : Option Addr) (c0 : Nat) (l0 : List Int) (a1 : Int) (a2 : Int) (r : Int) (w : World) (hr0 : Kd.C (Kd.int .i64) w A0 l0.length l0) (hc0 : l0.length ≤ c0) (h : suffix_common.f k l0 a1 a2 = some r) :
  Calls Try.prog 56 #[.slice A0 l0.length c0, .int .i64 a1, .int .i64 a2] w fun e w' => e = .returned (.int .i64 r) ∧ Below w.heap.size w w' := by
 have HR0 := Aside0.mk hr0
 have HC0 := Aside0.mk hc0
 clear hr0 hc0
 have HB := Aside0.mk (Below.refl w.heap.size w)
 have H : (suffix_common.l0 k l0 a1 a2 0) = some r := h
 clear h
 have H' := Aside0.mk H
 clear H
 go_enter Try.func56, Try.ntmps56
 go_wp2
 repeat (go_quiet (fail); try go_wp2)
 go_loopg [7] k (fun kq v7 w' => ∃ (x7_1 : Int), v7 = .int .i64 x7_1 ∧ Aside0 (suffix_common.l0 kq l0 a1 a2 x7_1 = some r) ∧ Aside0 (kq ≤ k) ∧ Aside0 (Below w.heap.size w w'))
 case atStart => exact ⟨(0), (by first | rfl | (simp; done) | (simp [*]; done)), H', ⟨Nat.le_refl _⟩, ⟨by repeat (first | (with_reducible first | exact HB.out | apply below_alloc | apply pw_below_drewN | apply below_drew1) | exact HB.out)⟩⟩
 case round =>
  clear H'
  try clear p2
  obtain ⟨x7_1, rfl, HA, HK1, HB⟩ := hrel
  cases gk with
  | zero => exact absurd HA.out (by simp [suffix_common.l0])
  | succ k1 =>
   have H := HA.out
   clear HA
   simp only [suffix_common.l0] at H
   obtain ⟨ji4, hji4⟩ : ∃ j_ : Int, (mx a1 a2) = j_ := ⟨_, rfl⟩
   replace H : (if (wrap64 ((ji4) + x7_1)) < (l0.length : Int) then (if 0 ≤ (wrap64 (a1 + x7_1)) then (if (wrap64 (a1 + x7_1)) < (l0.length : Int) then (if 0 ≤ (wrap64 (a2 + x7_1)) then (if (wrap64 (a2 + x7_1)) < (l0.length : Int) then (if (rd l0 (wrap64 (a1 + x7_1))) = (rd l0 (wrap64 (a2 + x7_1))) then (suffix_common.l0 k1 l0 a1 a2 (wrap64 (x7_1 + 1))) else (some x7_1)) else (none)) else (none)) else (none)) else (none)) else (some x7_1)) = some r := by first | (rw [hji4] at H; exact H) | (simp only [hji4] at H ⊢; exact H)
   have hji4_ : (if a1 < a2 then a2 else a1) = ji4 := hji4
   by_cases c5 : (wrap64 ((ji4) + x7_1)) < (l0.length : Int)
   ·rw [if_pos c5] at H
    have c5b0 : decide ((wrap64 ((ji4) + x7_1)) < (l0.length : Int)) = true := decide_eq_true c5
    clear c5
    obtain ⟨ji6, hji6⟩ : ∃ j_ : Int, (wrap64 (a1 + x7_1)) = j_ := ⟨_, rfl⟩
    replace H : (if 0 ≤ (ji6) then (if (ji6) < (l0.length : Int) then (if 0 ≤ (wrap64 (a2 + x7_1)) then (if (wrap64 (a2 + x7_1)) < (l0.length : Int) then (if (rd l0 (ji6)) = (rd l0 (wrap64 (a2 + x7_1))) then (suffix_common.l0 k1 l0 a1 a2 (wrap64 (x7_1 + 1))) else (some x7_1)) else (none)) else (none)) else (none)) else (none)) = some r := by first | (rw [hji6] at H; exact H) | (simp only [hji6] at H ⊢; exact H)
    have hji6w : (IntKind.i64.wrap (a1 + x7_1)) = ji6 := (i64_w _).trans hji6
    by_cases c7 : 0 ≤ (ji6)
    ·rw [if_pos c7] at H
     have c7b0 : decide (0 ≤ (ji6)) = true := decide_eq_true c7
     clear c7
     by_cases c8 : (ji6) < (l0.length : Int)
     ·rw [if_pos c8] at H
      have c8b0 : decide ((ji6) < (l0.length : Int)) = true := decide_eq_true c8
      clear c8
      obtain ⟨ji9, hji9⟩ : ∃ j_ : Int, (wrap64 (a2 + x7_1)) = j_ := ⟨_, rfl⟩
      replace H : (if 0 ≤ (ji9) then (if (ji9) < (l0.length : Int) then (if (rd l0 (ji6)) = (rd l0 (ji9)) then (suffix_common.l0 k1 l0 a1 a2 (wrap64 (x7_1 + 1))) else (some x7_1)) else (none)) else (none)) = some r := by first | (rw [hji9] at H; exact H) | (simp only [hji9] at H ⊢; exact H)
      have hji9w : (IntKind.i64.wrap (a2 + x7_1)) = ji9 := (i64_w _).trans hji9
      by_cases c10 : 0 ≤ (ji9)
      ·rw [if_pos c10] at H
       have c10b0 : decide (0 ≤ (ji9)) = true := decide_eq_true c10
       clear c10
       by_cases c11 : (ji9) < (l0.length : Int)
       ·rw [if_pos c11] at H
        have c11b0 : decide ((ji9) < (l0.length : Int)) = true := decide_eq_true c11
        clear c11
        by_cases c12 : (rd l0 (ji6)) = (rd l0 (ji9))
        ·rw [if_pos c12] at H
         have c12b0 : ((rd l0 (ji6)) == (rd l0 (ji9))) = true := beq_iff_eq.mpr c12
         have c12b1 : ((rd l0 (ji6)) != (rd l0 (ji9))) = false := bne_eq_false_iff_eq.mpr c12
         clear c12
         have H' := Aside0.mk H
         clear H
         have p242 : 0 ≤ ((ji6) : Int) := of_decide_eq_true (by first | (with_reducible assumption) | assumption)
         have q242 : (ji6) < (l0.length : Int) := of_decide_eq_true (by first | (with_reducible assumption) | assumption)
         obtain ⟨ad242, e242, hx242_0⟩ := Kd.at_int HR0.out (ji6) p242 q242
         cases e242
         replace hx242_0 := (HB.out.cell (World.block_lt_of_cell? w _ hx242_0)).trans hx242_0
         replace p242 := eq_true p242
         replace q242 := eq_true q242
         have p243 : 0 ≤ ((ji9) : Int) := of_decide_eq_true (by first | (with_reducible assumption) | assumption)
         have q243 : (ji9) < (l0.length : Int) := of_decide_eq_true (by first | (with_reducible assumption) | assumption)
         obtain ⟨ad243, e243, hx243_0⟩ := Kd.at_int HR0.out (ji9) p243 q243
         obtain rfl : ad242 = ad243 := (by injection e243)
         replace hx243_0 := (HB.out.cell (World.block_lt_of_cell? w _ hx243_0)).trans hx243_0
         replace p243 := eq_true p243
         replace q243 := eq_true q243
         go_wp2
         repeat (go_quiet (fail); try go_wp2)
         go_roundg k1
         case measure => have := HK1.out; omega
         case rel => exact ⟨(wrap64 (x7_1 + 1)), (by first | rfl | (simp; done) | (simp [*]; done)), H', ⟨by have := HK1.out; omega⟩, ⟨by repeat (first | (with_reducible first | exact HB.out | apply below_alloc | apply pw_below_drewN | apply below_drew1) | exact HB.out)⟩⟩
        ·rw [if_neg c12] at H
         have c12b0 : ((rd l0 (ji6)) == (rd l0 (ji9))) = false := beq_eq_false_iff_ne.mpr c12
         have c12b1 : ((rd l0 (ji6)) != (rd l0 (ji9))) = true := bne_iff_ne.mpr c12
         obtain rfl := Option.some.inj H
         have p242 : 0 ≤ ((ji6) : Int) := of_decide_eq_true (by first | (with_reducible assumption) | assumption)
         have q242 : (ji6) < (l0.length : Int) := of_decide_eq_true (by first | (with_reducible assumption) | assumption)
         obtain ⟨ad242, e242, hx242_0⟩ := Kd.at_int HR0.out (ji6) p242 q242
         cases e242
         replace hx242_0 := (HB.out.cell (World.block_lt_of_cell? w _ hx242_0)).trans hx242_0
         replace p242 := eq_true p242
         replace q242 := eq_true q242
         have p243 : 0 ≤ ((ji9) : Int) := of_decide_eq_true (by first | (with_reducible assumption) | assumption)
         have q243 : (ji9) < (l0.length : Int) := of_decide_eq_true (by first | (with_reducible assumption) | assumption)
         obtain ⟨ad243, e243, hx243_0⟩ := Kd.at_int HR0.out (ji9) p243 q243
         obtain rfl : ad242 = ad243 := (by injection e243)
         replace hx243_0 := (HB.out.cell (World.block_lt_of_cell? w _ hx243_0)).trans hx243_0
         replace p243 := eq_true p243
         replace q243 := eq_true q243
         go_wp2
         repeat (go_quiet (fail); try go_wp2)
         go_ret
         exact ⟨by first | rfl | (simp [errW_none, errW_some] <;> rfl) | (simp only [← hji4, ← hji6, ← hji9]; first | rfl | (simp [errW_none, errW_some] <;> rfl)) | (simp [*, errW_none, errW_some] <;> rfl), by repeat (first | (with_reducible first | exact HB.out | apply below_alloc | apply pw_below_drewN | apply below_drew1) | exact HB.out)⟩
       ·rw [if_neg c11] at H
        exact absurd H (by simp)
      ·rw [if_neg c10] at H
       exact absurd H (by simp)
     ·rw [if_neg c8] at H
      exact absurd H (by simp)
    ·rw [if_neg c7] at H
     exact absurd H (by simp)
   ·rw [if_neg c5] at H
    have c5b0 : decide ((wrap64 ((ji4) + x7_1)) < (l0.length : Int)) = false := decide_eq_false c5
    clear c5
    obtain rfl := Option.some.inj H
    go_wp2
    repeat (go_quiet (fail); try go_wp2)
    go_ret
    exact ⟨by first | rfl | (simp [errW_none, errW_some] <;> rfl) | (simp only [← hji4]; first | rfl | (simp [errW_none, errW_some] <;> rfl)) | (simp [*, errW_none, errW_some] <;> rfl), by repeat (first | (with_reducible first | exact HB.out | apply below_alloc | apply pw_below_drewN | apply below_drew1) | exact HB.out)⟩

end Go.Proofs.Ythkofhidhghmmaa.PSufS
