-- Written by a program of this session (wip/tools/pp.sh, on the pattern of the kit's print): not typed by hand.
import Derived.Test.YtmmacpicbonhhaaPSalx0
namespace Go.Proofs.Ytmmacpicbonhhaa.PSal
set_option maxRecDepth 100000
open Go.RowKit Go.Proofs.YtmmacpicbonhhaaW.PrintWords Go.Proofs.YtmmacpicbonhhaaW.PrintLast Go.Proofs.YtmmacpicbonhhaaW.PrintMore
attribute [local go_sem] max2_int min2_int max_two min_two max_three min_three max_four min_four   -- for this text's walks alone
set_option linter.unusedVariables false
set_option linter.unusedSimpArgs false

/-! ### suffix_Turned: function 46 -/
mutual
def suffix_Turned.l0 : Nat → List Int → List Int → Int → Int → Option (List Int × Int)
 | 0, _, _, _, _ => none
 | k + 1, x0, x4, x12, x13 => if x13 < x12 then (if 0 ≤ x13 then (if x13 < (x4.length : Int) then (suffix_Turned.l0 k x0 (x4.set (x13 : Int).toNat (-1)) x12 (wrap64 (x13 + 1))) else (none)) else (none)) else (suffix_Turned.l1 k x0 x4 x0 (x0.length : Int) 0)
def suffix_Turned.l1 : Nat → List Int → List Int → List Int → Int → Int → Option (List Int × Int)
 | 0, _, _, _, _, _ => none
 | k + 1, x0, x4, x20, x21, x22 => if x22 < x21 then (if 0 ≤ x22 then (if x22 < (x20.length : Int) then (if (rd x20 x22) < 0 then (some (([] : List Int), 3)) else (if (rd x20 x22) ≥ (x0.length : Int) then (some (([] : List Int), 3)) else (if 0 ≤ (rd x20 x22) then (if (rd x20 x22) < (x4.length : Int) then (if (rd x4 (rd x20 x22)) ≥ 0 then (some (([] : List Int), 3)) else (suffix_Turned.l1 k x0 (x4.set ((rd x20 x22) : Int).toNat x22) x20 x21 (wrap64 (x22 + 1)))) else (none)) else (none)))) else (none)) else (none)) else (some (x4, 0))
end
def suffix_Turned.f (k : Nat) (l0 : List Int) : Option (List Int × Int) := if 0 ≤ (l0.length : Int) then (if ((l0.length : Int) : Int).toNat ≤ 35184372088832 then ((some (List.replicate ((l0.length : Int) : Int).toNat 0 : List Int)).bind fun y101 => (suffix_Turned.l0 k l0 y101 (y101.length : Int) 0)) else (none)) else (none)
theorem suffix_Turned.mono_l : ∀ k, (∀ y0 y1 y2 y3, LeO (suffix_Turned.l0 k y0 y1 y2 y3) (suffix_Turned.l0 (k + 1) y0 y1 y2 y3)) ∧ (∀ y0 y1 y2 y3 y4, LeO (suffix_Turned.l1 k y0 y1 y2 y3 y4) (suffix_Turned.l1 (k + 1) y0 y1 y2 y3 y4))
 | 0 => ⟨fun _ _ _ _ r h => by simp [suffix_Turned.l0] at h, fun _ _ _ _ _ r h => by simp [suffix_Turned.l1] at h⟩
 | k + 1 => by
  obtain ⟨ih0, ih1⟩ := suffix_Turned.mono_l k
  refine ⟨?_, ?_⟩
  ·intro y0 y1 y2 y3
   unfold suffix_Turned.l0
   repeat' first
   | (with_reducible exact ih0 _ _ _ _)
   | (with_reducible exact ih1 _ _ _ _ _)
   | (with_reducible exact LeO.refl _)
   | (with_reducible exact LeO.none _)
   | (with_reducible refine LeO.ite ?_ ?_)
   | (with_reducible refine LeO.bind ?_ (fun _ => ?_))
   | exact ih0 _ _ _ _
   | exact ih1 _ _ _ _ _
   | exact LeO.none _
   | refine LeO.ite ?_ ?_
   | refine LeO.bind ?_ (fun _ => ?_)
  ·intro y0 y1 y2 y3 y4
   unfold suffix_Turned.l1
   repeat' first
   | (with_reducible exact ih0 _ _ _ _)
   | (with_reducible exact ih1 _ _ _ _ _)
   | (with_reducible exact LeO.refl _)
   | (with_reducible exact LeO.none _)
   | (with_reducible refine LeO.ite ?_ ?_)
   | (with_reducible refine LeO.bind ?_ (fun _ => ?_))
   | exact ih0 _ _ _ _
   | exact ih1 _ _ _ _ _
   | exact LeO.none _
   | refine LeO.ite ?_ ?_
   | refine LeO.bind ?_ (fun _ => ?_)
theorem suffix_Turned.mono : ∀ a0 k, LeO (suffix_Turned.f k a0) (suffix_Turned.f (k + 1) a0) := by
 intro a0 k
 obtain ⟨ih0, ih1⟩ := suffix_Turned.mono_l k
 unfold suffix_Turned.f
 repeat' first
   | (with_reducible exact ih0 _ _ _ _)
   | (with_reducible exact ih1 _ _ _ _ _)
   | (with_reducible exact LeO.refl _)
   | (with_reducible exact LeO.none _)
   | (with_reducible refine LeO.ite ?_ ?_)
   | (with_reducible refine LeO.bind ?_ (fun _ => ?_))
   | exact ih0 _ _ _ _
   | exact ih1 _ _ _ _ _
   | exact LeO.none _
   | refine LeO.ite ?_ ?_
   | refine LeO.bind ?_ (fun _ => ?_)
set_option maxHeartbeats 8000000 in
set_option maxRecDepth 100000 in
theorem suffix_Turned.calls (k : Nat) (A0 : Option Addr) (c0 : Nat) (l0 : List Int) (r1 : List Int) (r2 : Int) (w : World) (hr0 : Kd.C (Kd.int .i64) w A0 l0.length l0) (hc0 : l0.length ≤ c0) (h : suffix_Turned.f k l0 = some (r1, r2)) :
  Calls Try.prog 46 #[.slice A0 l0.length c0] w fun e w' => ∃ v0_ : Value, e = .returned (.tuple #[v0_, .int .i64 r2]) ∧ Kd.R (Kd.int .i64) 3 w' w.heap.size (fun _ => True) v0_ r1 ∧ Below w.heap.size w w' := by
 have HR0 := Aside0.mk hr0
 have HC0 := Aside0.mk hc0
 clear hr0 hc0
 have HB := Aside0.mk (Below.refl w.heap.size w)
 have H : (if 0 ≤ (l0.length : Int) then (if ((l0.length : Int) : Int).toNat ≤ 35184372088832 then ((some (List.replicate ((l0.length : Int) : Int).toNat 0 : List Int)).bind fun y101 => (suffix_Turned.l0 k l0 y101 (y101.length : Int) 0)) else (none)) else (none)) = some (r1, r2) := h
 clear h
 by_cases c2 : 0 ≤ (l0.length : Int)
 ·rw [if_pos c2] at H
  have c2b0 := eq_true c2
  have c2b1 : decide (0 ≤ (l0.length : Int)) = true := decide_eq_true c2
  clear c2
  by_cases c3 : ((l0.length : Int) : Int).toNat ≤ 35184372088832
  ·rw [if_pos c3] at H
   have c3b0 := eq_true c3
   have c3b1 : decide (((l0.length : Int) : Int).toNat ≤ 35184372088832) = true := decide_eq_true c3
   clear c3
   obtain ⟨y101, hy101⟩ : ∃ y_ : List Int, y_ = (List.replicate ((l0.length : Int) : Int).toNat 0) := ⟨_, rfl⟩
   replace H : (suffix_Turned.l0 k l0 y101 (y101.length : Int) 0) = some (r1, r2) := by first | (rw [hy101]; with_reducible exact H) | (have H2_ := (Option.bind_some _ _).symm.trans H; rw [hy101]; with_reducible exact H2_) | (have H2_ := (Option.bind_some _ _).symm.trans H; with_reducible exact H2_) | with_reducible exact H | (rw [hy101]; exact H) | exact H
   have Ny101 := Aside0.mk hy101
   clear hy101
   have H' := Aside0.mk H
   clear H
   go_enter Try.func46, Try.ntmps46
   go_wp2_with (first | ((with_reducible refine gate_dst (N := 10) rfl ?_); (try (refine gate_guard (by rfl) ?_; dsimp only)); refine Kd.R_make (Kd.int .i64) _ 3 rfl (N := 10) rfl 22 _ _ rfl (l0.length : Int) rfl rfl Try.underlying22 (.int .i64 0) 8 info3 rfl (by decide) (by omega) 0 (ok := fun _ => True) (okp := fun _ => True) rfl (fun _ hk => hk) trivial (of_decide_eq_true (by first | (with_reducible assumption) | assumption)) (Nat.le_trans (Nat.mul_le_mul_right _ (of_decide_eq_true (by first | (with_reducible assumption) | assumption) : (l0.length : Int).toNat ≤ 35184372088832)) (by omega)) (Below.refl _ _) (Nat.le_refl _) ?_; intro v102 w4 ho5 hb hg_ hnew_; clear hg_ hnew_; (first | rw [← Ny101.out] at ho5 | (simp only [Int.reduceToNat] at ho5; rw [← Ny101.out] at ho5)); have n0_ := Aside0.mk (Kd.R_lower ho5 (below_size (by repeat (first | (with_reducible first | exact HB.out | apply below_alloc | apply pw_below_drewN | apply below_drew1) | exact HB.out)))); have n1_ := Aside0.mk (below_step (by repeat (first | (with_reducible first | exact HB.out | apply below_alloc | apply pw_below_drewN | apply below_drew1) | exact HB.out)) hb); clear HB; have HO103 := n0_; have HB := n1_; clear n0_ n1_; clear hb ho5; obtain ⟨Ao6, co6, eo6⟩ := Kd.R_slice HO103.out; subst eo6))
   go_loopg [13] k (fun kq v13 w' => ∃ (x4_1 : List Int) (x13_1 : Int), v13 = .int .i64 x13_1 ∧ Aside0 (suffix_Turned.l0 kq l0 x4_1 (y101.length : Int) x13_1 = some (r1, r2)) ∧ Aside0 (kq ≤ k) ∧ Aside0 (Kd.R (Kd.int .i64) 3 w' w.heap.size (fun _ => True) (.slice Ao6 y101.length co6) x4_1) ∧ Aside0 (Below w.heap.size w w'))
   case atStart => exact ⟨(y101), (0), (by first | rfl | (simp; done) | (simp [*]; done)), H', ⟨Nat.le_refl _⟩, ⟨by (with_reducible repeat (first | apply Kd.R_alloc | apply Kd.R_drewN | apply Kd.R_drew)); exact HO103.out⟩, ⟨by repeat (first | (with_reducible first | exact HB.out | apply below_alloc | apply pw_below_drewN | apply below_drew1) | exact HB.out)⟩⟩
   case round =>
    clear H'
    try clear c2
    try clear c2b0
    try clear c2b1
    try clear p2
    try clear c3
    try clear c3b0
    try clear c3b1
    try clear c4
    obtain ⟨x4_1, x13_1, rfl, HA, HK1, HO_4, HB⟩ := hrel
    have hl4_1 := (Kd.R_reads' HO_4.out).1
    rw [hl4_1] at HO_4
    (try simp only [hl4_1])
    cases gk with
    | zero => exact absurd HA.out (by simp [suffix_Turned.l0])
    | succ k1 =>
     have H := HA.out
     clear HA
     simp only [suffix_Turned.l0] at H
     by_cases c7 : x13_1 < (y101.length : Int)
     ·rw [if_pos c7] at H
      have c7b0 : decide (x13_1 < (y101.length : Int)) = true := decide_eq_true c7
      (try (have c7b0r := c7b0; simp only [hl4_1] at c7b0r))
      clear c7
      by_cases c8 : 0 ≤ x13_1
      ·rw [if_pos c8] at H
       have c8b0 : decide (0 ≤ x13_1) = true := decide_eq_true c8
       clear c8
       by_cases c9 : x13_1 < (x4_1.length : Int)
       ·rw [if_pos c9] at H
        have c9b0 : decide (x13_1 < (x4_1.length : Int)) = true := decide_eq_true c9
        (try (have c9b0r := c9b0; simp only [hl4_1] at c9b0r))
        clear c9
        obtain ⟨y104, hy104⟩ : ∃ y_ : List Int, y_ = (x4_1.set (x13_1 : Int).toNat (-1)) := ⟨_, rfl⟩
        replace H : (suffix_Turned.l0 k1 l0 y104 (y101.length : Int) (wrap64 (x13_1 + 1))) = some (r1, r2) := by first | (rw [hy104]; with_reducible exact H) | (have H2_ := (Option.bind_some _ _).symm.trans H; rw [hy104]; with_reducible exact H2_) | (have H2_ := (Option.bind_some _ _).symm.trans H; with_reducible exact H2_) | with_reducible exact H | (rw [hy104]; exact H) | exact H
        have Ny104 := Aside0.mk hy104
        clear hy104
        have H' := Aside0.mk H
        clear H
        have p10 : 0 ≤ (x13_1 : Int) := of_decide_eq_true (by first | (with_reducible assumption) | assumption)
        have q10 : (x13_1 : Int) < ((x4_1.length : Int) : Int) := of_decide_eq_true (by first | (with_reducible assumption) | assumption)
        obtain ⟨go10, co10, eo10, gb10, gl10, cl10, HG10⟩ := Kd.R_form HO_4.out (by omega)
        (first | cases eo10 | (injection eo10 with ea_ en_ ec_; (first | subst ea_ | (injection ea_ with ea_; subst ea_)); subst ec_; clear en_))
        have GB10 := Aside0.mk gb10
        have GG10 := Aside0.mk HG10
        clear gb10 gl10 HG10
        obtain ⟨hx10_0, hf10_0⟩ := Kd.R_celln 0 HO_4.out (x13_1 : Int) p10 q10
        replace p10 := eq_true p10
        replace q10 := eq_true q10
        have HP11 := Kd.R_putg HO_4.out (x13_1 : Int) (-1)
        go_wp2_with (first | ((with_reducible refine gate_store (t := 3) (p := 18) rfl ?_); refine store_event (t := 3) (p := 18) (v := ?vo_w12) (w1 := (wr.setCell ⟨go10, (x13_1 : Int).toNat, none⟩ (.int .i64 (-1)))) ?hg ?ho ?hn ?hr ?_; (case ho => rfl); (case hg => rfl); (case hn => rfl); (case hr => first | (go_simp; done) | (go_simp; rfl)); intro w12 hw; have hg : wr.grownBy w12 (some go10) := (by rw [hw]; exact HP11.2); have hp_ : Kd.R (Kd.int .i64) 3 w12 w.heap.size (fun _ => True) (.slice (some ⟨go10, 0, none⟩) x4_1.length co6) y104 := (by rw [hw, Ny104.out]; exact HP11.1); clear HP11; have n0_ := Aside0.mk (hp_); have n1_ := Aside0.mk ((by rw [hw]; exact below_set (HB.out) GB10.out : Below w.heap.size w w12)); clear HO_4; clear HB; have HO_4 := n0_; have HB := n1_; clear n0_ n1_; clear hg hw hp_))
        (try simp only [← hl4_1])
        go_roundg k1
        case measure => have := HK1.out; omega
        case rel => exact ⟨(y104), (wrap64 (x13_1 + 1)), (by first | rfl | (simp; done) | (simp [*]; done)), H', ⟨by have := HK1.out; omega⟩, ⟨by (try simp only [hl4_1]); (with_reducible repeat (first | apply Kd.R_alloc | apply Kd.R_drewN | apply Kd.R_drew)); exact HO_4.out⟩, ⟨by repeat (first | (with_reducible first | exact HB.out | apply below_alloc | apply pw_below_drewN | apply below_drew1) | exact HB.out)⟩⟩
       ·rw [if_neg c9] at H
        exact absurd H (by simp)
      ·rw [if_neg c8] at H
       exact absurd H (by simp)
     ·rw [if_neg c7] at H
      have c7b0 : decide (x13_1 < (y101.length : Int)) = false := decide_eq_false c7
      (try (have c7b0r := c7b0; simp only [hl4_1] at c7b0r))
      clear c7
      have H' := Aside0.mk H
      clear H
      go_wp2
      go_loopg [22] k1 (fun kq v22 w' => ∃ (x4_2 : List Int) (x22_2 : Int), v22 = .int .i64 x22_2 ∧ Aside0 (suffix_Turned.l1 kq l0 x4_2 l0 (l0.length : Int) x22_2 = some (r1, r2)) ∧ Aside0 (kq ≤ k1) ∧ Aside0 (Kd.R (Kd.int .i64) 3 w' w.heap.size (fun _ => True) (.slice Ao6 x4_1.length co6) x4_2) ∧ Aside0 (Below w.heap.size w w'))
      case atStart => exact ⟨(x4_1), (0), (by first | rfl | (simp; done) | (simp [*]; done)), H', ⟨Nat.le_refl _⟩, ⟨by (try simp only [hl4_1]); (with_reducible repeat (first | apply Kd.R_alloc | apply Kd.R_drewN | apply Kd.R_drew)); exact HO_4.out⟩, ⟨by repeat (first | (with_reducible first | exact HB.out | apply below_alloc | apply pw_below_drewN | apply below_drew1) | exact HB.out)⟩⟩
      case round =>
       clear H'
       try clear p1
       try clear q1
       try clear hx1
       try clear hf1
       try clear c2
       try clear c2b0
       try clear c2b1
       try clear p2
       try clear c3
       try clear c3b0
       try clear c3b1
       try clear c4
       try clear p6
       try clear c7
       try clear c7b0
       try clear c8
       try clear c8b0
       try clear c9
       try clear c9b0
       try clear p10
       try clear q10
       try clear hx10
       try clear hf10
       try clear hx10_0
       try clear p10
       try clear p2
       try clear q10
       obtain ⟨x4_2, x22_2, rfl, HA, HK2, HO_4, HB⟩ := hrel
       have hl4_2 := (Kd.R_reads' HO_4.out).1
       rw [hl4_2] at HO_4
       (try simp only [hl4_2])
       cases gk with
       | zero => exact absurd HA.out (by simp [suffix_Turned.l1])
       | succ k2 =>
        have H := HA.out
        clear HA
        simp only [suffix_Turned.l1] at H
        by_cases c13 : x22_2 < (l0.length : Int)
        ·rw [if_pos c13] at H
         have c13b0 : decide (x22_2 < (l0.length : Int)) = true := decide_eq_true c13
         (try (have c13b0r := c13b0; simp only [hl4_1, hl4_2] at c13b0r))
         clear c13
         by_cases c14 : 0 ≤ x22_2
         ·rw [if_pos c14] at H
          have c14b0 : decide (0 ≤ x22_2) = true := decide_eq_true c14
          clear c14
          by_cases c15 : x22_2 < (l0.length : Int)
          ·rw [if_pos c15] at H
           have c15b0 : decide (x22_2 < (l0.length : Int)) = true := decide_eq_true c15
           (try (have c15b0r := c15b0; simp only [hl4_1, hl4_2] at c15b0r))
           clear c15
           by_cases c16 : (rd l0 x22_2) < 0
           ·rw [if_pos c16] at H
            have c16b0 : decide ((rd l0 x22_2) < 0) = true := decide_eq_true c16
            clear c16
            simp only [Option.some.injEq, Prod.mk.injEq] at H
            obtain ⟨rfl, rfl⟩ := H
            have p105 : 0 ≤ (x22_2 : Int) := of_decide_eq_true (by first | (with_reducible assumption) | assumption)
            have q105 : x22_2 < (l0.length : Int) := of_decide_eq_true (by first | (with_reducible assumption) | assumption)
            obtain ⟨ad105, e105, hx105_0⟩ := Kd.at_int HR0.out x22_2 p105 q105
            cases e105
            replace hx105_0 := (HB.out.cell (World.block_lt_of_cell? w _ hx105_0)).trans hx105_0
            replace p105 := eq_true p105
            replace q105 := eq_true q105
            go_wp2
            go_ret2
            exact ⟨_, by first | rfl | (simp [errW_none, errW_some] <;> rfl) | (simp [*, errW_none, errW_some] <;> rfl), by first | exact Kd.R_nil _ _ _ _ _ | exact Kd.N_nil _ _ _ _ _ | exact Kd.V_nil _ _ _ _ _ | exact Kd.Q_nil _ _ _ _ _ | exact Kd.S_nil _ _ _ _ _, by repeat (first | (with_reducible first | exact HB.out | apply below_alloc | apply pw_below_drewN | apply below_drew1) | exact HB.out)⟩
           ·rw [if_neg c16] at H
            have c16b0 : decide ((rd l0 x22_2) < 0) = false := decide_eq_false c16
            clear c16
            by_cases c17 : (rd l0 x22_2) ≥ (l0.length : Int)
            ·rw [if_pos c17] at H
             have c17b0 : decide ((l0.length : Int) ≤ (rd l0 x22_2)) = true := decide_eq_true c17
             (try (have c17b0r := c17b0; simp only [hl4_1, hl4_2] at c17b0r))
             clear c17
             simp only [Option.some.injEq, Prod.mk.injEq] at H
             obtain ⟨rfl, rfl⟩ := H
             have p105 : 0 ≤ (x22_2 : Int) := of_decide_eq_true (by first | (with_reducible assumption) | assumption)
             have q105 : x22_2 < (l0.length : Int) := of_decide_eq_true (by first | (with_reducible assumption) | assumption)
             obtain ⟨ad105, e105, hx105_0⟩ := Kd.at_int HR0.out x22_2 p105 q105
             cases e105
             replace hx105_0 := (HB.out.cell (World.block_lt_of_cell? w _ hx105_0)).trans hx105_0
             replace p105 := eq_true p105
             replace q105 := eq_true q105
             go_wp2
             go_ret2
             exact ⟨_, by first | rfl | (simp [errW_none, errW_some] <;> rfl) | (simp [*, errW_none, errW_some] <;> rfl), by first | exact Kd.R_nil _ _ _ _ _ | exact Kd.N_nil _ _ _ _ _ | exact Kd.V_nil _ _ _ _ _ | exact Kd.Q_nil _ _ _ _ _ | exact Kd.S_nil _ _ _ _ _, by repeat (first | (with_reducible first | exact HB.out | apply below_alloc | apply pw_below_drewN | apply below_drew1) | exact HB.out)⟩
            ·rw [if_neg c17] at H
             have c17b0 : decide ((l0.length : Int) ≤ (rd l0 x22_2)) = false := decide_eq_false c17
             (try (have c17b0r := c17b0; simp only [hl4_1, hl4_2] at c17b0r))
             clear c17
             by_cases c18 : 0 ≤ (rd l0 x22_2)
             ·rw [if_pos c18] at H
              have c18b0 : decide (0 ≤ (rd l0 x22_2)) = true := decide_eq_true c18
              clear c18
              by_cases c19 : (rd l0 x22_2) < (x4_2.length : Int)
              ·rw [if_pos c19] at H
               have c19b0 : decide ((rd l0 x22_2) < (x4_2.length : Int)) = true := decide_eq_true c19
               (try (have c19b0r := c19b0; simp only [hl4_1, hl4_2] at c19b0r))
               clear c19
               by_cases c20 : (rd x4_2 (rd l0 x22_2)) ≥ 0
               ·rw [if_pos c20] at H
                have c20b0 : decide (0 ≤ (rd x4_2 (rd l0 x22_2))) = true := decide_eq_true c20
                clear c20
                simp only [Option.some.injEq, Prod.mk.injEq] at H
                obtain ⟨rfl, rfl⟩ := H
                have p105 : 0 ≤ (x22_2 : Int) := of_decide_eq_true (by first | (with_reducible assumption) | assumption)
                have q105 : x22_2 < (l0.length : Int) := of_decide_eq_true (by first | (with_reducible assumption) | assumption)
                obtain ⟨ad105, e105, hx105_0⟩ := Kd.at_int HR0.out x22_2 p105 q105
                cases e105
                replace hx105_0 := (HB.out.cell (World.block_lt_of_cell? w _ hx105_0)).trans hx105_0
                replace p105 := eq_true p105
                replace q105 := eq_true q105
                have p106 : 0 ≤ ((rd l0 x22_2) : Int) := of_decide_eq_true (by first | (with_reducible assumption) | assumption)
                have q106 : (rd l0 x22_2) < (x4_2.length : Int) := of_decide_eq_true (by first | (with_reducible assumption) | assumption)
                obtain ⟨ad106, e106, hx106_0⟩ := Kd.at_int (Kd.R_reads' HO_4.out).2.2 (rd l0 x22_2) p106 q106
                cases e106
                replace p106 := eq_true p106
                replace q106 := eq_true q106
                go_wp2
                go_ret2
                exact ⟨_, by first | rfl | (simp [errW_none, errW_some] <;> rfl) | (simp [*, errW_none, errW_some] <;> rfl), by first | exact Kd.R_nil _ _ _ _ _ | exact Kd.N_nil _ _ _ _ _ | exact Kd.V_nil _ _ _ _ _ | exact Kd.Q_nil _ _ _ _ _ | exact Kd.S_nil _ _ _ _ _, by repeat (first | (with_reducible first | exact HB.out | apply below_alloc | apply pw_below_drewN | apply below_drew1) | exact HB.out)⟩
               ·rw [if_neg c20] at H
                have c20b0 : decide (0 ≤ (rd x4_2 (rd l0 x22_2))) = false := decide_eq_false c20
                clear c20
                obtain ⟨y107, hy107⟩ : ∃ y_ : List Int, y_ = (x4_2.set ((rd l0 x22_2) : Int).toNat x22_2) := ⟨_, rfl⟩
                replace H : (suffix_Turned.l1 k2 l0 y107 l0 (l0.length : Int) (wrap64 (x22_2 + 1))) = some (r1, r2) := by first | (rw [hy107]; with_reducible exact H) | (have H2_ := (Option.bind_some _ _).symm.trans H; rw [hy107]; with_reducible exact H2_) | (have H2_ := (Option.bind_some _ _).symm.trans H; with_reducible exact H2_) | with_reducible exact H | (rw [hy107]; exact H) | exact H
                have Ny107 := Aside0.mk hy107
                clear hy107
                have H' := Aside0.mk H
                clear H
                have p105 : 0 ≤ (x22_2 : Int) := of_decide_eq_true (by first | (with_reducible assumption) | assumption)
                have q105 : x22_2 < (l0.length : Int) := of_decide_eq_true (by first | (with_reducible assumption) | assumption)
                obtain ⟨ad105, e105, hx105_0⟩ := Kd.at_int HR0.out x22_2 p105 q105
                cases e105
                replace hx105_0 := (HB.out.cell (World.block_lt_of_cell? w _ hx105_0)).trans hx105_0
                replace p105 := eq_true p105
                replace q105 := eq_true q105
                have p106 : 0 ≤ ((rd l0 x22_2) : Int) := of_decide_eq_true (by first | (with_reducible assumption) | assumption)
                have q106 : (rd l0 x22_2) < (x4_2.length : Int) := of_decide_eq_true (by first | (with_reducible assumption) | assumption)
                obtain ⟨ad106, e106, hx106_0⟩ := Kd.at_int (Kd.R_reads' HO_4.out).2.2 (rd l0 x22_2) p106 q106
                cases e106
                replace p106 := eq_true p106
                replace q106 := eq_true q106
                have p21 : 0 ≤ ((rd l0 x22_2) : Int) := of_decide_eq_true (by first | (with_reducible assumption) | assumption)
                have q21 : ((rd l0 x22_2) : Int) < ((x4_2.length : Int) : Int) := of_decide_eq_true (by first | (with_reducible assumption) | assumption)
                obtain ⟨go21, co21, eo21, gb21, gl21, cl21, HG21⟩ := Kd.R_form HO_4.out (by omega)
                (first | cases eo21 | (injection eo21 with ea_ en_ ec_; (first | subst ea_ | (injection ea_ with ea_; subst ea_)); subst ec_; clear en_))
                have GB21 := Aside0.mk gb21
                have GG21 := Aside0.mk HG21
                clear gb21 gl21 HG21
                (first | simp only [add_plain] at hx106_0 | skip)
                obtain ⟨hx21_0, hf21_0⟩ := Kd.R_celln 0 HO_4.out ((rd l0 x22_2) : Int) p21 q21
                replace p21 := eq_true p21
                replace q21 := eq_true q21
                have HP22 := Kd.R_putg HO_4.out ((rd l0 x22_2) : Int) x22_2
                go_wp2_with (first | ((with_reducible refine gate_store (t := 3) (p := 45) rfl ?_); refine store_event (t := 3) (p := 45) (v := ?vo_w23) (w1 := (wr.setCell ⟨go21, ((rd l0 x22_2) : Int).toNat, none⟩ (.int .i64 x22_2))) ?hg ?ho ?hn ?hr ?_; (case ho => rfl); (case hg => rfl); (case hn => rfl); (case hr => first | (go_simp; done) | (go_simp; rfl)); intro w23 hw; have hg : wr.grownBy w23 (some go21) := (by rw [hw]; exact HP22.2); have hp_ : Kd.R (Kd.int .i64) 3 w23 w.heap.size (fun _ => True) (.slice (some ⟨go21, 0, none⟩) x4_2.length co6) y107 := (by rw [hw, Ny107.out]; exact HP22.1); clear HP22; have n0_ := Aside0.mk (hp_); have n1_ := Aside0.mk ((by rw [hw]; exact below_set (HB.out) GB21.out : Below w.heap.size w w23)); clear HO_4; clear HB; have HO_4 := n0_; have HB := n1_; clear n0_ n1_; clear hg hw hp_))
                (try simp only [← hl4_2])
                go_roundg k2
                case measure => have := HK1.out; have := HK2.out; omega
                case rel => exact ⟨(y107), (wrap64 (x22_2 + 1)), (by first | rfl | (simp; done) | (simp [*]; done)), H', ⟨by have := HK1.out; have := HK2.out; omega⟩, ⟨by (try simp only [hl4_1]); (try simp only [hl4_2]); (with_reducible repeat (first | apply Kd.R_alloc | apply Kd.R_drewN | apply Kd.R_drew)); exact HO_4.out⟩, ⟨by repeat (first | (with_reducible first | exact HB.out | apply below_alloc | apply pw_below_drewN | apply below_drew1) | exact HB.out)⟩⟩
              ·rw [if_neg c19] at H
               exact absurd H (by simp)
             ·rw [if_neg c18] at H
              exact absurd H (by simp)
          ·rw [if_neg c15] at H
           exact absurd H (by simp)
         ·rw [if_neg c14] at H
          exact absurd H (by simp)
        ·rw [if_neg c13] at H
         have c13b0 : decide (x22_2 < (l0.length : Int)) = false := decide_eq_false c13
         (try (have c13b0r := c13b0; simp only [hl4_1, hl4_2] at c13b0r))
         clear c13
         simp only [Option.some.injEq, Prod.mk.injEq] at H
         obtain ⟨rfl, rfl⟩ := H
         go_wp2
         go_ret2
         exact ⟨_, by first | rfl | (simp [errW_none, errW_some] <;> rfl) | (simp [*, errW_none, errW_some] <;> rfl), by (with_reducible repeat (first | apply Kd.R_alloc | apply Kd.R_drewN | apply Kd.R_drew)); exact HO_4.out, by repeat (first | (with_reducible first | exact HB.out | apply below_alloc | apply pw_below_drewN | apply below_drew1) | exact HB.out)⟩
  ·rw [if_neg c3] at H
   exact absurd H (by simp)
 ·rw [if_neg c2] at H
  exact absurd H (by simp)

/-! ### slices_Index_int_int: function 69 -/
def slices_Index_int_int.l0 : Nat → List Int → Int → Int → Int → Option (Int)
 | 0, _, _, _, _ => none
 | k + 1, x0, x1, x7, x8 => if x8 < x7 then (if 0 ≤ x8 then (if x8 < (x0.length : Int) then (if x1 = (rd x0 x8) then (some x8) else (slices_Index_int_int.l0 k x0 x1 x7 (wrap64 (x8 + 1)))) else (none)) else (none)) else (some (-1))
def slices_Index_int_int.f (k : Nat) (l0 : List Int) (a1 : Int) : Option (Int) := slices_Index_int_int.l0 k l0 a1 (l0.length : Int) 0
theorem slices_Index_int_int.mono_l : ∀ k, (∀ y0 y1 y2 y3, LeO (slices_Index_int_int.l0 k y0 y1 y2 y3) (slices_Index_int_int.l0 (k + 1) y0 y1 y2 y3))
 | 0 => fun _ _ _ _ r h => by simp [slices_Index_int_int.l0] at h
 | k + 1 => by
  have ih0 := slices_Index_int_int.mono_l k
  ·intro y0 y1 y2 y3
   unfold slices_Index_int_int.l0
   repeat' first
   | (with_reducible exact ih0 _ _ _ _)
   | (with_reducible exact LeO.refl _)
   | (with_reducible exact LeO.none _)
   | (with_reducible refine LeO.ite ?_ ?_)
   | (with_reducible refine LeO.bind ?_ (fun _ => ?_))
   | exact ih0 _ _ _ _
   | exact LeO.none _
   | refine LeO.ite ?_ ?_
   | refine LeO.bind ?_ (fun _ => ?_)
theorem slices_Index_int_int.mono : ∀ a0 a1 k, LeO (slices_Index_int_int.f k a0 a1) (slices_Index_int_int.f (k + 1) a0 a1) := by
 intro a0 a1 k
 have ih0 := slices_Index_int_int.mono_l k
 unfold slices_Index_int_int.f
 repeat' first
   | (with_reducible exact ih0 _ _ _ _)
   | (with_reducible exact LeO.refl _)
   | (with_reducible exact LeO.none _)
   | (with_reducible refine LeO.ite ?_ ?_)
   | (with_reducible refine LeO.bind ?_ (fun _ => ?_))
   | exact ih0 _ _ _ _
   | exact LeO.none _
   | refine LeO.ite ?_ ?_
   | refine LeO.bind ?_ (fun _ => ?_)
set_option maxHeartbeats 8000000 in
set_option maxRecDepth 100000 in
theorem slices_Index_int_int.calls (k : Nat) (A0 : Option Addr) (c0 : Nat) (l0 : List Int) (a1 : Int) (r : Int) (w : World) (hr0 : Kd.C (Kd.int .i64) w A0 l0.length l0) (hc0 : l0.length ≤ c0) (h : slices_Index_int_int.f k l0 a1 = some r) :
  Calls Try.prog 69 #[.slice A0 l0.length c0, .int .i64 a1] w fun e w' => e = .returned (.int .i64 r) ∧ Drawn0 w w' := by
 have HR0 := Aside0.mk hr0
 have HC0 := Aside0.mk hc0
 clear hr0 hc0
 have H : (slices_Index_int_int.l0 k l0 a1 (l0.length : Int) 0) = some r := h
 clear h
 have H' := Aside0.mk H
 clear H
 go_enter Try.func69, Try.ntmps69
 go_wp2
 go_loopg [8] k (fun kq v8 w' => ∃ (x8_1 : Int), v8 = .int .i64 x8_1 ∧ Aside0 (slices_Index_int_int.l0 kq l0 a1 (l0.length : Int) x8_1 = some r) ∧ Aside0 (kq ≤ k) ∧ Drawn0 w w')
 case atStart => exact ⟨(0), (by first | rfl | (simp; done) | (simp [*]; done)), H', ⟨Nat.le_refl _⟩, by repeat (first | exact Drawn0.refl _ | apply Drawn0.step)⟩
 case round =>
  clear H'
  try clear p2
  obtain ⟨x8_1, rfl, HA, HK1, ⟨m1, rfl⟩⟩ := hrel
  cases gk with
  | zero => exact absurd HA.out (by simp [slices_Index_int_int.l0])
  | succ k1 =>
   have H := HA.out
   clear HA
   simp only [slices_Index_int_int.l0] at H
   by_cases c3 : x8_1 < (l0.length : Int)
   ·rw [if_pos c3] at H
    have c3b0 : decide (x8_1 < (l0.length : Int)) = true := decide_eq_true c3
    clear c3
    by_cases c4 : 0 ≤ x8_1
    ·rw [if_pos c4] at H
     have c4b0 : decide (0 ≤ x8_1) = true := decide_eq_true c4
     clear c4
     by_cases c5 : x8_1 < (l0.length : Int)
     ·rw [if_pos c5] at H
      have c5b0 : decide (x8_1 < (l0.length : Int)) = true := decide_eq_true c5
      clear c5
      by_cases c6 : a1 = (rd l0 x8_1)
      ·rw [if_pos c6] at H
       have c6b0 : (a1 == (rd l0 x8_1)) = true := beq_iff_eq.mpr c6
       have c6b1 : (a1 != (rd l0 x8_1)) = false := bne_eq_false_iff_eq.mpr c6
       clear c6
       obtain rfl := Option.some.inj H
       have p108 : 0 ≤ (x8_1 : Int) := of_decide_eq_true (by first | (with_reducible assumption) | assumption)
       have q108 : x8_1 < (l0.length : Int) := of_decide_eq_true (by first | (with_reducible assumption) | assumption)
       obtain ⟨ad108, e108, hx108_0⟩ := Kd.at_int HR0.out x8_1 p108 q108
       cases e108
       replace p108 := eq_true p108
       replace q108 := eq_true q108
       go_wp2
       go_ret
       exact ⟨by first | rfl | (simp; done) | (simp [*]; done), by repeat (first | exact Drawn0.refl _ | apply Drawn0.step)⟩
      ·rw [if_neg c6] at H
       have c6b0 : (a1 == (rd l0 x8_1)) = false := beq_eq_false_iff_ne.mpr c6
       have c6b1 : (a1 != (rd l0 x8_1)) = true := bne_iff_ne.mpr c6
       have H' := Aside0.mk H
       clear H
       have p108 : 0 ≤ (x8_1 : Int) := of_decide_eq_true (by first | (with_reducible assumption) | assumption)
       have q108 : x8_1 < (l0.length : Int) := of_decide_eq_true (by first | (with_reducible assumption) | assumption)
       obtain ⟨ad108, e108, hx108_0⟩ := Kd.at_int HR0.out x8_1 p108 q108
       cases e108
       replace p108 := eq_true p108
       replace q108 := eq_true q108
       go_wp2
       go_roundg k1
       case measure => have := HK1.out; omega
       case rel => exact ⟨(wrap64 (x8_1 + 1)), (by first | rfl | (simp; done) | (simp [*]; done)), H', ⟨by have := HK1.out; omega⟩, by repeat (first | exact Drawn0.refl _ | apply Drawn0.step)⟩
     ·rw [if_neg c5] at H
      exact absurd H (by simp)
    ·rw [if_neg c4] at H
     exact absurd H (by simp)
   ·rw [if_neg c3] at H
    have c3b0 : decide (x8_1 < (l0.length : Int)) = false := decide_eq_false c3
    clear c3
    obtain rfl := Option.some.inj H
    go_wp2
    go_ret
    exact ⟨by first | rfl | (simp; done) | (simp [*]; done), by repeat (first | exact Drawn0.refl _ | apply Drawn0.step)⟩

/-! ### suffix_Check: function 45 (by hand) -/
def suffix_Check.f (k : Nat) (l0 : List Int) : Option (Int) := if 65536 < l0.length then some 2 else if inKs .i64 l0 = true then (if l0.any badCode = true then some 10 else (slices_Index_int_int.f k l0 0).bind fun i => if i = (l0.length : Int) - 1 then (if l0.length = 0 then some 3 else some 0) else some 3) else none
theorem suffix_Check.mono : ∀ a0 k, LeO (suffix_Check.f k a0) (suffix_Check.f (k + 1) a0) := by
 intro a0 k r h
 unfold suffix_Check.f at h ⊢
 by_cases h1 : 65536 < a0.length
 ·rw [if_pos h1] at h ⊢; exact h
 ·rw [if_neg h1] at h ⊢
  by_cases h2 : inKs .i64 a0 = true
  ·rw [if_pos h2] at h ⊢
   by_cases h3 : a0.any badCode = true
   ·rw [if_pos h3] at h ⊢; exact h
   ·rw [if_neg h3] at h ⊢
    obtain ⟨i, hi, h⟩ := Option.bind_eq_some_iff.1 h
    rw [slices_Index_int_int.mono _ _ _ _ hi, Option.bind_some]
    exact h
  ·rw [if_neg h2] at h; cases h
set_option maxHeartbeats 2000000 in
set_option maxRecDepth 100000 in
theorem suffix_Check.calls (k : Nat) (A0 : Option Addr) (c0 : Nat) (l0 : List Int) (r : Int) (w : World) (hr0 : Kd.C (Kd.int .i64) w A0 l0.length l0) (hc0 : l0.length ≤ c0) (h : suffix_Check.f k l0 = some r) :
  Calls Try.prog 45 #[.slice A0 l0.length c0] w fun e w' => e = .returned (.int .i64 r) ∧ Drawn0 w w' := by
 unfold suffix_Check.f at h
 have hlen : l0.length ≤ 9223372036854775807 := hr0.2.1
 by_cases h1 : 65536 < l0.length
 ·rw [if_pos h1] at h
  obtain rfl := Option.some.inj h
  clear h
  go_enter Try.func45, Try.ntmps45
  go_wp2_with fail
  go_ret
  exact ⟨rfl, Drawn0.refl _⟩
 ·rw [if_neg h1] at h
  have hd1 : decide (65536 < l0.length) = false := decide_eq_false h1
  have hd2 : decide ((65536 : Int) < (l0.length : Int)) = false := decide_eq_false (by omega)
  have hl16 : l0.length ≤ 65536 := by omega
  clear h1
  obtain ⟨hin, h⟩ : inKs .i64 l0 = true ∧ (if l0.any badCode = true then some 10 else (slices_Index_int_int.f k l0 0).bind fun i => if i = (l0.length : Int) - 1 then (if l0.length = 0 then some 3 else some 0) else some 3) = some r := by
   cases hi : inKs .i64 l0 with
   | true => rw [hi, if_pos rfl] at h; exact ⟨rfl, h⟩
   | false => rw [hi, if_neg (by decide)] at h; cases h
  have HCB := Lib.hid (containsBad A0 l0.length c0 l0 w (rd_of_kd hr0 (inKs_of hin)))
  cases hany : l0.any badCode with
  | true =>
   rw [hany, if_pos rfl] at h
   rw [hany] at HCB
   obtain rfl := Option.some.inj h
   clear h hin hany
   go_enter Try.func45, Try.ntmps45
   go_wp2_with fail
   refine (HCB.out).mono ?_
   rintro e w' ⟨rfl, rfl⟩
   go_wp2_with fail
   go_ret
   exact ⟨rfl, Drawn0.refl _⟩
  | false =>
   rw [hany, if_neg (by decide)] at h
   rw [hany] at HCB
   obtain ⟨i, hi, h⟩ := Option.bind_eq_some_iff.1 h
   have HIX := Lib.hid (slices_Index_int_int.calls k A0 c0 l0 0 i w hr0 hc0 hi)
   clear hin hany hi
   by_cases h2 : i = (l0.length : Int) - 1
   ·rw [if_pos h2] at h
    have hb2 : (i != (l0.length : Int) - 1) = false := by simpa using h2
    have hb3 : (i == (l0.length : Int) - 1) = true := by simpa using h2
    by_cases h0 : l0.length = 0
    ·have he : l0 = [] := List.eq_nil_of_length_eq_zero h0
     subst he
     rw [if_pos h0] at h
     obtain rfl := Option.some.inj h
     subst h2
     clear h
     go_enter Try.func45, Try.ntmps45
     go_wp2_with fail
     refine (HCB.out).mono ?_
     rintro e w' ⟨rfl, rfl⟩
     go_wp2_with fail
     refine (HIX.out).mono ?_
     rintro e w' ⟨rfl, hdr⟩
     go_wp2_with fail
     go_ret
     exact ⟨rfl, hdr⟩
    ·rw [if_neg h0] at h
     obtain rfl := Option.some.inj h
     have hb4 : ((l0.length : Int) == 0) = false := by simpa using (show (l0.length : Int) ≠ 0 by omega)
     have hb5 : ¬ l0 = [] := fun e => h0 (by rw [e]; rfl)
     clear h h2
     go_enter Try.func45, Try.ntmps45
     go_wp2_with fail
     refine (HCB.out).mono ?_
     rintro e w' ⟨rfl, rfl⟩
     go_wp2_with fail
     refine (HIX.out).mono ?_
     rintro e w' ⟨rfl, hdr⟩
     go_wp2_with fail
     go_ret
     exact ⟨rfl, hdr⟩
   ·rw [if_neg h2] at h
    obtain rfl := Option.some.inj h
    have hb2 : (i != (l0.length : Int) - 1) = true := by simpa using h2
    have hb3 : (i == (l0.length : Int) - 1) = false := by simpa using h2
    clear h h2
    go_enter Try.func45, Try.ntmps45
    go_wp2_with fail
    refine (HCB.out).mono ?_
    rintro e w' ⟨rfl, rfl⟩
    go_wp2_with fail
    refine (HIX.out).mono ?_
    rintro e w' ⟨rfl, hdr⟩
    go_wp2_with fail
    go_ret
    exact ⟨rfl, hdr⟩


/-! ### suffix_kinds: function 76 (by hand) -/
def suffix_kinds.f (l0 : List Int) : Option (List Bool) := if inKs .i64 l0 = true ∧ l0.length ≤ 65536 then some (kdL l0) else none
theorem suffix_kinds.calls (A0 : Option Addr) (c0 : Nat) (l0 : List Int) (r : List Bool) (w : World) (hr0 : Kd.C (Kd.int .i64) w A0 l0.length l0) (hc0 : l0.length ≤ c0) (h : suffix_kinds.f l0 = some r) :
  Calls Try.prog 76 #[.slice A0 l0.length c0] w fun e w' => ∃ v0_ : Value, e = .returned (v0_) ∧ Kd.R Kd.bool 4 w' w.heap.size (fun _ => True) v0_ r ∧ Below w.heap.size w w' := by
 unfold suffix_kinds.f at h
 by_cases h1 : inKs .i64 l0 = true ∧ l0.length ≤ 65536
 ·rw [if_pos h1] at h
  obtain rfl := Option.some.inj h
  refine (sufkinds_calls A0 c0 l0 w (rd_of_kdc hr0 hc0 (inKs_of h1.1)) h1.2).mono fun e w' ⟨G, he, hG, hb, hu⟩ => ⟨_, he, kdb_of_blk hb hG (kdL_len l0).symm (by rw [kdL_len]; exact h1.2), hu.out⟩
 ·rw [if_neg h1] at h; cases h


/-! ### suffix_Kinds: function 58 -/
def suffix_Kinds.f (k : Nat) (l0 : List Int) : Option (List Bool × Int) := (suffix_Check.f k l0).bind fun t109 => (if t109 = 0 then ((suffix_kinds.f l0).bind fun t110 => (some (t110, 0))) else (some (([] : List Bool), t109)))
theorem suffix_Kinds.mono : ∀ a0 k, LeO (suffix_Kinds.f k a0) (suffix_Kinds.f (k + 1) a0) := by
 intro a0 k
 unfold suffix_Kinds.f
 repeat' first
   | (with_reducible exact suffix_Check.mono _ _)
   | (with_reducible exact LeO.refl _)
   | (with_reducible exact LeO.none _)
   | (with_reducible refine LeO.ite ?_ ?_)
   | (with_reducible refine LeO.bind ?_ (fun _ => ?_))
   | exact suffix_Check.mono _ _
   | exact LeO.none _
   | refine LeO.ite ?_ ?_
   | refine LeO.bind ?_ (fun _ => ?_)
set_option maxHeartbeats 8000000 in
set_option maxRecDepth 100000 in
theorem suffix_Kinds.calls (k : Nat) (A0 : Option Addr) (c0 : Nat) (l0 : List Int) (r1 : List Bool) (r2 : Int) (w : World) (hr0 : Kd.C (Kd.int .i64) w A0 l0.length l0) (hc0 : l0.length ≤ c0) (h : suffix_Kinds.f k l0 = some (r1, r2)) :
  Calls Try.prog 58 #[.slice A0 l0.length c0] w fun e w' => ∃ v0_ : Value, e = .returned (.tuple #[v0_, .int .i64 r2]) ∧ Kd.R Kd.bool 4 w' w.heap.size (fun _ => True) v0_ r1 ∧ Below w.heap.size w w' := by
 have HR0 := Aside0.mk hr0
 have HC0 := Aside0.mk hc0
 clear hr0 hc0
 have HB := Aside0.mk (Below.refl w.heap.size w)
 have H : ((suffix_Check.f k l0).bind fun t109 => (if t109 = 0 then ((suffix_kinds.f l0).bind fun t110 => (some (t110, 0))) else (some (([] : List Bool), t109)))) = some (r1, r2) := h
 clear h
 replace H := Option.bind_eq_some_iff.mp H
 obtain ⟨t109, A20, H⟩ := H
 replace H : (if t109 = 0 then ((suffix_kinds.f l0).bind fun t110 => (some (t110, 0))) else (some (([] : List Bool), t109))) = some (r1, r2) := H
 have A2 := Aside0.mk A20
 clear A20
 by_cases c3 : t109 = 0
 ·rw [if_pos c3] at H
  have c3b0 : (t109 == 0) = true := beq_iff_eq.mpr c3
  have c3b1 : (t109 != 0) = false := bne_eq_false_iff_eq.mpr c3
  clear c3
  replace H := Option.bind_eq_some_iff.mp H
  obtain ⟨t110, A40, H⟩ := H
  replace H : (some (t110, 0)) = some (r1, r2) := H
  have A4 := Aside0.mk A40
  clear A40
  simp only [Option.some.injEq, Prod.mk.injEq] at H
  obtain ⟨rfl, rfl⟩ := H
  go_enter Try.func58, Try.ntmps58
  go_wp2_with (first | ((with_reducible refine gate_callee (f := 45) rfl ?_); refine goesL_ (some 6) rfl rfl Try.func45 (by kernel_rfl) rfl #[.slice A0 l0.length c0] rfl (by (try simp only [List.map_toArray, List.map_cons, List.map_nil]); first | done | rfl | (simp only [List.length_drop, List.length_take]; rfl)) ?_; (with_reducible refine (suffix_Check.calls k _ _ l0 t109 _ ?side1 ?side2 A2.out).mono ?_); (case side1 => repeat (first | exact HR0.out | (with_reducible refine Kd.C_alloc ?_ _) | (with_reducible refine Kd.C_drewN ?_ _) | (with_reducible refine Kd.C_drew ?_))); (case side2 => exact HC0.out); rintro e w' ⟨rfl, ⟨nd, rfl⟩⟩; refine ⟨_, rfl, ?_⟩) | ((with_reducible refine gate_callee (f := 76) rfl ?_); refine goesL_ (some 11) rfl rfl Try.func76 (by kernel_rfl) rfl #[.slice A0 l0.length c0] rfl (by (try simp only [List.map_toArray, List.map_cons, List.map_nil]); first | done | rfl | (simp only [List.length_drop, List.length_take]; rfl)) ?_; (with_reducible refine (suffix_kinds.calls _ _ l0 t110 _ ?side1 ?side2 A4.out).mono ?_); (case side1 => repeat (first | exact HR0.out | (with_reducible refine Kd.C_alloc ?_ _) | (with_reducible refine Kd.C_drewN ?_ _) | (with_reducible refine Kd.C_drew ?_))); (case side2 => exact HC0.out); rintro e w5 ⟨v111, rfl, ho0, hb⟩; refine ⟨_, rfl, ?_⟩; have n0_ := Aside0.mk (Kd.R_lower ho0 (below_size (by repeat (first | (with_reducible first | exact HB.out | apply below_alloc | apply pw_below_drewN | apply below_drew1) | exact HB.out)))); have n1_ := Aside0.mk (below_step (by repeat (first | (with_reducible first | exact HB.out | apply below_alloc | apply pw_below_drewN | apply below_drew1) | exact HB.out)) hb); clear HB; have HO112 := n0_; have HB := n1_; clear n0_ n1_; (try clear hb); (try clear hb2); (try clear hk); (try clear hi); (try clear ho0)))
  go_ret2
  exact ⟨_, by first | rfl | (simp [errW_none, errW_some] <;> rfl) | (simp [*, errW_none, errW_some] <;> rfl), by (with_reducible repeat (first | apply Kd.R_alloc | apply Kd.R_drewN | apply Kd.R_drew)); exact HO112.out, by repeat (first | (with_reducible first | exact HB.out | apply below_alloc | apply pw_below_drewN | apply below_drew1) | exact HB.out)⟩
 ·rw [if_neg c3] at H
  have c3b0 : (t109 == 0) = false := beq_eq_false_iff_ne.mpr c3
  have c3b1 : (t109 != 0) = true := bne_iff_ne.mpr c3
  simp only [Option.some.injEq, Prod.mk.injEq] at H
  obtain ⟨rfl, rfl⟩ := H
  go_enter Try.func58, Try.ntmps58
  go_wp2_with (first | ((with_reducible refine gate_callee (f := 45) rfl ?_); refine goesL_ (some 6) rfl rfl Try.func45 (by kernel_rfl) rfl #[.slice A0 l0.length c0] rfl (by (try simp only [List.map_toArray, List.map_cons, List.map_nil]); first | done | rfl | (simp only [List.length_drop, List.length_take]; rfl)) ?_; (with_reducible refine (suffix_Check.calls k _ _ l0 t109 _ ?side1 ?side2 A2.out).mono ?_); (case side1 => repeat (first | exact HR0.out | (with_reducible refine Kd.C_alloc ?_ _) | (with_reducible refine Kd.C_drewN ?_ _) | (with_reducible refine Kd.C_drew ?_))); (case side2 => exact HC0.out); rintro e w' ⟨rfl, ⟨nd, rfl⟩⟩; refine ⟨_, rfl, ?_⟩))
  go_ret2
  exact ⟨_, by first | rfl | (simp [errW_none, errW_some] <;> rfl) | (simp [*, errW_none, errW_some] <;> rfl), by first | exact Kd.R_nil _ _ _ _ _ | exact Kd.N_nil _ _ _ _ _ | exact Kd.V_nil _ _ _ _ _ | exact Kd.Q_nil _ _ _ _ _ | exact Kd.S_nil _ _ _ _ _, by repeat (first | (with_reducible first | exact HB.out | apply below_alloc | apply pw_below_drewN | apply below_drew1) | exact HB.out)⟩

/-! ### suffix_Firsts: function 38 -/
def suffix_Firsts.l0 : Nat → List Bool → List Int → Int → Int → Option (List Int × Int)
 | 0, _, _, _, _ => none
 | k + 1, x4, x6, x17, x18 => if x18 < x17 then (if x18 = 0 then (suffix_Firsts.l0 k x4 x6 x17 (wrap64 (x18 + 1))) else (if 0 ≤ x18 then (if x18 < (x4.length : Int) then (if rdOf false x4 x18 = true then (if 0 ≤ (wrap64 (x18 - 1)) then (if (wrap64 (x18 - 1)) < (x4.length : Int) then (if rdOf false x4 (wrap64 (x18 - 1)) = true then (suffix_Firsts.l0 k x4 x6 x17 (wrap64 (x18 + 1))) else (if x6.length < 17592186044416 then (suffix_Firsts.l0 k x4 (x6 ++ [x18]) x17 (wrap64 (x18 + 1))) else (none))) else (none)) else (none)) else (suffix_Firsts.l0 k x4 x6 x17 (wrap64 (x18 + 1)))) else (none)) else (none))) else (some (x6, 0))
def suffix_Firsts.f (k : Nat) (l0 : List Int) : Option (List Int × Int) := (suffix_Kinds.f k l0).bind fun bt113 => (if bt113.2 = 0 then (suffix_Firsts.l0 k bt113.1 ([] : List Int) (bt113.1.length : Int) 0) else (some (([] : List Int), bt113.2)))
theorem suffix_Firsts.mono_l : ∀ k, (∀ y0 y1 y2 y3, LeO (suffix_Firsts.l0 k y0 y1 y2 y3) (suffix_Firsts.l0 (k + 1) y0 y1 y2 y3))
 | 0 => fun _ _ _ _ r h => by simp [suffix_Firsts.l0] at h
 | k + 1 => by
  have ih0 := suffix_Firsts.mono_l k
  ·intro y0 y1 y2 y3
   unfold suffix_Firsts.l0
   repeat' first
   | (with_reducible exact ih0 _ _ _ _)
   | (with_reducible exact suffix_Kinds.mono _ _)
   | (with_reducible exact LeO.refl _)
   | (with_reducible exact LeO.none _)
   | (with_reducible refine LeO.ite ?_ ?_)
   | (with_reducible refine LeO.bind ?_ (fun _ => ?_))
   | exact ih0 _ _ _ _
   | exact suffix_Kinds.mono _ _
   | exact LeO.none _
   | refine LeO.ite ?_ ?_
   | refine LeO.bind ?_ (fun _ => ?_)
theorem suffix_Firsts.mono : ∀ a0 k, LeO (suffix_Firsts.f k a0) (suffix_Firsts.f (k + 1) a0) := by
 intro a0 k
 have ih0 := suffix_Firsts.mono_l k
 unfold suffix_Firsts.f
 repeat' first
   | (with_reducible exact ih0 _ _ _ _)
   | (with_reducible exact suffix_Kinds.mono _ _)
   | (with_reducible exact LeO.refl _)
   | (with_reducible exact LeO.none _)
   | (with_reducible refine LeO.ite ?_ ?_)
   | (with_reducible refine LeO.bind ?_ (fun _ => ?_))
   | exact ih0 _ _ _ _
   | exact suffix_Kinds.mono _ _
   | exact LeO.none _
   | refine LeO.ite ?_ ?_
   | refine LeO.bind ?_ (fun _ => ?_)
set_option maxHeartbeats 8000000 in
set_option maxRecDepth 100000 in
theorem suffix_Firsts.calls (k : Nat) (A0 : Option Addr) (c0 : Nat) (l0 : List Int) (r1 : List Int) (r2 : Int) (w : World) (hr0 : Kd.C (Kd.int .i64) w A0 l0.length l0) (hc0 : l0.length ≤ c0) (h : suffix_Firsts.f k l0 = some (r1, r2)) :
  Calls Try.prog 38 #[.slice A0 l0.length c0] w fun e w' => ∃ v0_ : Value, e = .returned (.tuple #[v0_, .int .i64 r2]) ∧ Kd.R (Kd.int .i64) 3 w' w.heap.size (fun _ => True) v0_ r1 ∧ Below w.heap.size w w' := by
 have HR0 := Aside0.mk hr0
 have HC0 := Aside0.mk hc0
 clear hr0 hc0
 have HB := Aside0.mk (Below.refl w.heap.size w)
 have H : ((suffix_Kinds.f k l0).bind fun bt113 => (if bt113.2 = 0 then (suffix_Firsts.l0 k bt113.1 ([] : List Int) (bt113.1.length : Int) 0) else (some (([] : List Int), bt113.2)))) = some (r1, r2) := h
 clear h
 replace H := Option.bind_eq_some_iff.mp H
 obtain ⟨⟨t113, t114⟩, A20, H⟩ := H
 replace H : (if t114 = 0 then (suffix_Firsts.l0 k t113 ([] : List Int) (t113.length : Int) 0) else (some (([] : List Int), t114))) = some (r1, r2) := H
 have A2 := Aside0.mk A20
 clear A20
 by_cases c3 : t114 = 0
 ·rw [if_pos c3] at H
  have c3b0 : (t114 == 0) = true := beq_iff_eq.mpr c3
  have c3b1 : (t114 != 0) = false := bne_eq_false_iff_eq.mpr c3
  clear c3
  have H' := Aside0.mk H
  clear H
  go_enter Try.func38, Try.ntmps38
  try go_wp2_with (first | ((with_reducible refine gate_callee (f := 58) rfl ?_); refine goesL_ (some 10) rfl rfl Try.func58 (by kernel_rfl) rfl #[.slice A0 l0.length c0] rfl (by (try simp only [List.map_toArray, List.map_cons, List.map_nil]); first | done | rfl | (simp only [List.length_drop, List.length_take]; rfl)) ?_; (with_reducible refine (suffix_Kinds.calls k _ _ l0 t113 t114 _ ?side1 ?side2 A2.out).mono ?_); (case side1 => repeat (first | exact HR0.out | (with_reducible refine Kd.C_alloc ?_ _) | (with_reducible refine Kd.C_drewN ?_ _) | (with_reducible refine Kd.C_drew ?_))); (case side2 => exact HC0.out); rintro e w4 ⟨v115, rfl, ho0, hb⟩; refine ⟨_, rfl, ?_⟩; have n0_ := Aside0.mk (Kd.R_lower ho0 (below_size (by repeat (first | (with_reducible first | exact HB.out | apply below_alloc | apply pw_below_drewN | apply below_drew1) | exact HB.out)))); have n1_ := Aside0.mk (below_step (by repeat (first | (with_reducible first | exact HB.out | apply below_alloc | apply pw_below_drewN | apply below_drew1) | exact HB.out)) hb); clear HB; have HO116 := n0_; have HB := n1_; clear n0_ n1_; (try clear hb); (try clear hb2); (try clear hk); (try clear hi); (try clear ho0); obtain ⟨Ao5, co5, eo5⟩ := Kd.R_slice HO116.out; subst eo5))
  repeat ((go_step3); try go_wp2_with (first | ((with_reducible refine gate_callee (f := 58) rfl ?_); refine goesL_ (some 10) rfl rfl Try.func58 (by kernel_rfl) rfl #[.slice A0 l0.length c0] rfl (by (try simp only [List.map_toArray, List.map_cons, List.map_nil]); first | done | rfl | (simp only [List.length_drop, List.length_take]; rfl)) ?_; (with_reducible refine (suffix_Kinds.calls k _ _ l0 t113 t114 _ ?side1 ?side2 A2.out).mono ?_); (case side1 => repeat (first | exact HR0.out | (with_reducible refine Kd.C_alloc ?_ _) | (with_reducible refine Kd.C_drewN ?_ _) | (with_reducible refine Kd.C_drew ?_))); (case side2 => exact HC0.out); rintro e w4 ⟨v115, rfl, ho0, hb⟩; refine ⟨_, rfl, ?_⟩; have n0_ := Aside0.mk (Kd.R_lower ho0 (below_size (by repeat (first | (with_reducible first | exact HB.out | apply below_alloc | apply pw_below_drewN | apply below_drew1) | exact HB.out)))); have n1_ := Aside0.mk (below_step (by repeat (first | (with_reducible first | exact HB.out | apply below_alloc | apply pw_below_drewN | apply below_drew1) | exact HB.out)) hb); clear HB; have HO116 := n0_; have HB := n1_; clear n0_ n1_; (try clear hb); (try clear hb2); (try clear hk); (try clear hi); (try clear ho0); obtain ⟨Ao5, co5, eo5⟩ := Kd.R_slice HO116.out; subst eo5)))
  go_loopg [6, 18] k (fun kq v6 v18 w' => ∃ (x6_1 : List Int) (x18_1 : Int), v18 = .int .i64 x18_1 ∧ Aside0 (suffix_Firsts.l0 kq t113 x6_1 (t113.length : Int) x18_1 = some (r1, r2)) ∧ Aside0 (kq ≤ k) ∧ Aside0 (Kd.R Kd.bool 4 w' w.heap.size (fun _ => True) (.slice Ao5 t113.length co5) t113) ∧ Aside0 (Kd.R (Kd.int .i64) 3 w' w.heap.size (fun _ => True) v6 x6_1) ∧ Aside0 (Below w.heap.size w w'))
  case atStart => exact ⟨(([] : List Int)), (0), (by first | rfl | (simp; done) | (simp [*]; done)), H', ⟨Nat.le_refl _⟩, ⟨by (with_reducible repeat (first | apply Kd.R_alloc | apply Kd.R_drewN | apply Kd.R_drew)); exact HO116.out⟩, ⟨by first | exact Kd.R_nil _ _ _ _ _ | exact Kd.N_nil _ _ _ _ _ | exact Kd.V_nil _ _ _ _ _ | exact Kd.Q_nil _ _ _ _ _ | exact Kd.S_nil _ _ _ _ _⟩, ⟨by repeat (first | (with_reducible first | exact HB.out | apply below_alloc | apply pw_below_drewN | apply below_drew1) | exact HB.out)⟩⟩
  case round =>
   clear H'
   try clear p2
   try clear c3
   try clear c3b0
   try clear c3b1
   try clear p3
   try clear c5
   obtain ⟨x6_1, x18_1, rfl, HA, HK1, HO_4, HO_6, HB⟩ := hrel
   cases gk with
   | zero => exact absurd HA.out (by simp [suffix_Firsts.l0])
   | succ k1 =>
    have H := HA.out
    clear HA
    simp only [suffix_Firsts.l0] at H
    by_cases c6 : x18_1 < (t113.length : Int)
    ·rw [if_pos c6] at H
     have c6b0 : decide (x18_1 < (t113.length : Int)) = true := decide_eq_true c6
     clear c6
     by_cases c7 : x18_1 = 0
     ·rw [if_pos c7] at H
      have c7b0 : (x18_1 == 0) = true := beq_iff_eq.mpr c7
      have c7b1 : (x18_1 != 0) = false := bne_eq_false_iff_eq.mpr c7
      clear c7
      have H' := Aside0.mk H
      clear H
      try go_wp2_with (fail)
      repeat ((go_step3); try go_wp2_with (fail))
      go_roundg k1
      case measure => have := HK1.out; omega
      case rel => exact ⟨(x6_1), (wrap64 (x18_1 + 1)), (by first | rfl | (simp; done) | (simp [*]; done)), H', ⟨by have := HK1.out; omega⟩, ⟨by (with_reducible repeat (first | apply Kd.R_alloc | apply Kd.R_drewN | apply Kd.R_drew)); exact HO_4.out⟩, ⟨by (with_reducible repeat (first | apply Kd.R_alloc | apply Kd.R_drewN | apply Kd.R_drew)); exact HO_6.out⟩, ⟨by repeat (first | (with_reducible first | exact HB.out | apply below_alloc | apply pw_below_drewN | apply below_drew1) | exact HB.out)⟩⟩
     ·rw [if_neg c7] at H
      have c7b0 : (x18_1 == 0) = false := beq_eq_false_iff_ne.mpr c7
      have c7b1 : (x18_1 != 0) = true := bne_iff_ne.mpr c7
      by_cases c8 : 0 ≤ x18_1
      ·rw [if_pos c8] at H
       have c8b0 : decide (0 ≤ x18_1) = true := decide_eq_true c8
       clear c8
       by_cases c9 : x18_1 < (t113.length : Int)
       ·rw [if_pos c9] at H
        have c9b0 : decide (x18_1 < (t113.length : Int)) = true := decide_eq_true c9
        clear c9
        obtain ⟨bq10, hbq10⟩ : ∃ b_ : Bool, b_ = (rdOf false t113 x18_1) := ⟨_, rfl⟩
        replace H : (if bq10 = true then (if 0 ≤ (wrap64 (x18_1 - 1)) then (if (wrap64 (x18_1 - 1)) < (t113.length : Int) then (if rdOf false t113 (wrap64 (x18_1 - 1)) = true then (suffix_Firsts.l0 k1 t113 x6_1 (t113.length : Int) (wrap64 (x18_1 + 1))) else (if x6_1.length < 17592186044416 then (suffix_Firsts.l0 k1 t113 (x6_1 ++ [x18_1]) (t113.length : Int) (wrap64 (x18_1 + 1))) else (none))) else (none)) else (none)) else (suffix_Firsts.l0 k1 t113 x6_1 (t113.length : Int) (wrap64 (x18_1 + 1)))) = some (r1, r2) := by rw [← hbq10] at H; exact H
        have Nbq10 := Aside0.mk hbq10
        clear hbq10
        by_cases c11 : bq10 = true
        ·subst c11
         have H1 : (if 0 ≤ (wrap64 (x18_1 - 1)) then (if (wrap64 (x18_1 - 1)) < (t113.length : Int) then (if rdOf false t113 (wrap64 (x18_1 - 1)) = true then (suffix_Firsts.l0 k1 t113 x6_1 (t113.length : Int) (wrap64 (x18_1 + 1))) else (if x6_1.length < 17592186044416 then (suffix_Firsts.l0 k1 t113 (x6_1 ++ [x18_1]) (t113.length : Int) (wrap64 (x18_1 + 1))) else (none))) else (none)) else (none)) = some (r1, r2) := by rw [if_pos rfl] at H; exact H
         clear H
         have H := H1
         clear H1
         obtain ⟨ji12, hji12⟩ : ∃ j_ : Int, (wrap64 (x18_1 - 1)) = j_ := ⟨_, rfl⟩
         replace H : (if 0 ≤ (ji12) then (if (ji12) < (t113.length : Int) then (if rdOf false t113 (ji12) = true then (suffix_Firsts.l0 k1 t113 x6_1 (t113.length : Int) (wrap64 (x18_1 + 1))) else (if x6_1.length < 17592186044416 then (suffix_Firsts.l0 k1 t113 (x6_1 ++ [x18_1]) (t113.length : Int) (wrap64 (x18_1 + 1))) else (none))) else (none)) else (none)) = some (r1, r2) := by first | (rw [hji12] at H; exact H) | (simp only [hji12] at H ⊢; exact H)
         have hji12w : (IntKind.i64.wrap (x18_1 - 1)) = ji12 := (i64_w _).trans hji12
         by_cases c13 : 0 ≤ (ji12)
         ·rw [if_pos c13] at H
          have c13b0 : decide (0 ≤ (ji12)) = true := decide_eq_true c13
          clear c13
          by_cases c14 : (ji12) < (t113.length : Int)
          ·rw [if_pos c14] at H
           have c14b0 : decide ((ji12) < (t113.length : Int)) = true := decide_eq_true c14
           clear c14
           obtain ⟨bq15, hbq15⟩ : ∃ b_ : Bool, b_ = (rdOf false t113 (ji12)) := ⟨_, rfl⟩
           replace H : (if bq15 = true then (suffix_Firsts.l0 k1 t113 x6_1 (t113.length : Int) (wrap64 (x18_1 + 1))) else (if x6_1.length < 17592186044416 then (suffix_Firsts.l0 k1 t113 (x6_1 ++ [x18_1]) (t113.length : Int) (wrap64 (x18_1 + 1))) else (none))) = some (r1, r2) := by rw [← hbq15] at H; exact H
           have Nbq15 := Aside0.mk hbq15
           clear hbq15
           by_cases c16 : bq15 = true
           ·subst c16
            have H1 : (suffix_Firsts.l0 k1 t113 x6_1 (t113.length : Int) (wrap64 (x18_1 + 1))) = some (r1, r2) := by rw [if_pos rfl] at H; exact H
            clear H
            have H := H1
            clear H1
            have H' := Aside0.mk H
            clear H
            have p117 : 0 ≤ (x18_1 : Int) := of_decide_eq_true (by first | (with_reducible assumption) | assumption)
            have q117 : x18_1 < (t113.length : Int) := of_decide_eq_true (by first | (with_reducible assumption) | assumption)
            obtain ⟨ad117, e117, hx117_0⟩ := Kd.at_bool (Kd.R_reads' HO_4.out).2.2 x18_1 p117 q117
            (try rw [← Nbq10.out] at hx117_0)
            (try rw [← Nbq15.out] at hx117_0)
            cases e117
            replace p117 := eq_true p117
            replace q117 := eq_true q117
            have p118 : 0 ≤ ((ji12) : Int) := of_decide_eq_true (by first | (with_reducible assumption) | assumption)
            have q118 : (ji12) < (t113.length : Int) := of_decide_eq_true (by first | (with_reducible assumption) | assumption)
            obtain ⟨ad118, e118, hx118_0⟩ := Kd.at_bool (Kd.R_reads' HO_4.out).2.2 (ji12) p118 q118
            (try rw [← Nbq10.out] at hx118_0)
            (try rw [← Nbq15.out] at hx118_0)
            obtain rfl : ad117 = ad118 := (by injection e118)
            replace p118 := eq_true p118
            replace q118 := eq_true q118
            try go_wp2_with (fail)
            repeat ((go_step3); try go_wp2_with (fail))
            go_roundg k1
            case measure => have := HK1.out; omega
            case rel => exact ⟨(x6_1), (wrap64 (x18_1 + 1)), (by first | rfl | (simp; done) | (simp [*]; done)), H', ⟨by have := HK1.out; omega⟩, ⟨by (with_reducible repeat (first | apply Kd.R_alloc | apply Kd.R_drewN | apply Kd.R_drew)); exact HO_4.out⟩, ⟨by (with_reducible repeat (first | apply Kd.R_alloc | apply Kd.R_drewN | apply Kd.R_drew)); exact HO_6.out⟩, ⟨by repeat (first | (with_reducible first | exact HB.out | apply below_alloc | apply pw_below_drewN | apply below_drew1) | exact HB.out)⟩⟩
           ·replace c16 := Bool.eq_false_iff.mpr c16
            subst c16
            have H1 : (if x6_1.length < 17592186044416 then (suffix_Firsts.l0 k1 t113 (x6_1 ++ [x18_1]) (t113.length : Int) (wrap64 (x18_1 + 1))) else (none)) = some (r1, r2) := by rw [if_neg (show ¬ (false = true) by decide)] at H; exact H
            clear H
            have H := H1
            clear H1
            by_cases c17 : x6_1.length < 17592186044416
            ·rw [if_pos c17] at H
             have LMc17 := Aside0.mk c17
             clear c17
             obtain ⟨y119, hy119⟩ : ∃ y_ : List Int, y_ = (x6_1 ++ [x18_1]) := ⟨_, rfl⟩
             replace H : (suffix_Firsts.l0 k1 t113 y119 (t113.length : Int) (wrap64 (x18_1 + 1))) = some (r1, r2) := by first | (rw [hy119]; with_reducible exact H) | (have H2_ := (Option.bind_some _ _).symm.trans H; rw [hy119]; with_reducible exact H2_) | (have H2_ := (Option.bind_some _ _).symm.trans H; with_reducible exact H2_) | with_reducible exact H | (rw [hy119]; exact H) | exact H
             have Ny119 := Aside0.mk hy119
             clear hy119
             have H' := Aside0.mk H
             clear H
             have p117 : 0 ≤ (x18_1 : Int) := of_decide_eq_true (by first | (with_reducible assumption) | assumption)
             have q117 : x18_1 < (t113.length : Int) := of_decide_eq_true (by first | (with_reducible assumption) | assumption)
             obtain ⟨ad117, e117, hx117_0⟩ := Kd.at_bool (Kd.R_reads' HO_4.out).2.2 x18_1 p117 q117
             (try rw [← Nbq10.out] at hx117_0)
             (try rw [← Nbq15.out] at hx117_0)
             cases e117
             replace p117 := eq_true p117
             replace q117 := eq_true q117
             have p118 : 0 ≤ ((ji12) : Int) := of_decide_eq_true (by first | (with_reducible assumption) | assumption)
             have q118 : (ji12) < (t113.length : Int) := of_decide_eq_true (by first | (with_reducible assumption) | assumption)
             obtain ⟨ad118, e118, hx118_0⟩ := Kd.at_bool (Kd.R_reads' HO_4.out).2.2 (ji12) p118 q118
             (try rw [← Nbq10.out] at hx118_0)
             (try rw [← Nbq15.out] at hx118_0)
             obtain rfl : ad117 = ad118 := (by injection e118)
             replace p118 := eq_true p118
             replace q118 := eq_true q118
             try go_wp2_with (first | ((with_reducible refine gate_builtin (b := .append) (xs := #[.tmp 37, .tmp 39]) rfl ?_); at_builtin; refine Kd.R_append (Kd.int .i64) (w0 := w) w.heap.size rfl (.tmp 37) (.tmp 39) 22 3 (.int .i64 0) 8 rfl Try.underlying22 info3 rfl (by decide) (by omega) u6 x6_1 x18_1 [.int .i64 x18_1] (fun _ => True) (fun _ => False) rfl rfl ?aP (fun _ hk => hk.elim) ?aF ?aO ?aB ?aS ?aL ?_; (case aP => exact rfl); (case aB => exact (by repeat (first | (with_reducible first | exact HB.out | apply below_alloc | apply pw_below_drewN | apply below_drew1) | exact HB.out))); (case aF => exact (fun _ _ => trivial)); (case aO => exact (by (with_reducible repeat (first | apply Kd.R_alloc | apply Kd.R_drewN | apply Kd.R_drew)); exact HO_6.out)); (case aS => exact (below_size (by repeat (first | (with_reducible first | exact HB.out | apply below_alloc | apply pw_below_drewN | apply below_drew1) | exact HB.out)))); (case aL => have := LMc17.out; omega); intro v120 w18 ho hb hg hat; rw [← Ny119.out] at ho; have n0_ := Aside0.mk (Kd.R_over' (by (with_reducible repeat (first | apply Kd.R_alloc | apply Kd.R_drewN | apply Kd.R_drew)); exact HO_4.out) (Kd.R_typed (by (with_reducible repeat (first | apply Kd.R_alloc | apply Kd.R_drewN | apply Kd.R_drew)); exact HO_6.out)) (by decide) hg); have n1_ := Aside0.mk (hb); have n2_ := Aside0.mk (ho); clear HO_4; clear HB; clear HO_6; have HO_4 := n0_; have HB := n1_; have HO121 := n2_; clear n0_ n1_ n2_; clear ho hb hg hat))
             repeat ((go_step3); try go_wp2_with (first | ((with_reducible refine gate_builtin (b := .append) (xs := #[.tmp 37, .tmp 39]) rfl ?_); at_builtin; refine Kd.R_append (Kd.int .i64) (w0 := w) w.heap.size rfl (.tmp 37) (.tmp 39) 22 3 (.int .i64 0) 8 rfl Try.underlying22 info3 rfl (by decide) (by omega) u6 x6_1 x18_1 [.int .i64 x18_1] (fun _ => True) (fun _ => False) rfl rfl ?aP (fun _ hk => hk.elim) ?aF ?aO ?aB ?aS ?aL ?_; (case aP => exact rfl); (case aB => exact (by repeat (first | (with_reducible first | exact HB.out | apply below_alloc | apply pw_below_drewN | apply below_drew1) | exact HB.out))); (case aF => exact (fun _ _ => trivial)); (case aO => exact (by (with_reducible repeat (first | apply Kd.R_alloc | apply Kd.R_drewN | apply Kd.R_drew)); exact HO_6.out)); (case aS => exact (below_size (by repeat (first | (with_reducible first | exact HB.out | apply below_alloc | apply pw_below_drewN | apply below_drew1) | exact HB.out)))); (case aL => have := LMc17.out; omega); intro v120 w18 ho hb hg hat; rw [← Ny119.out] at ho; have n0_ := Aside0.mk (Kd.R_over' (by (with_reducible repeat (first | apply Kd.R_alloc | apply Kd.R_drewN | apply Kd.R_drew)); exact HO_4.out) (Kd.R_typed (by (with_reducible repeat (first | apply Kd.R_alloc | apply Kd.R_drewN | apply Kd.R_drew)); exact HO_6.out)) (by decide) hg); have n1_ := Aside0.mk (hb); have n2_ := Aside0.mk (ho); clear HO_4; clear HB; clear HO_6; have HO_4 := n0_; have HB := n1_; have HO121 := n2_; clear n0_ n1_ n2_; clear ho hb hg hat)))
             go_roundg k1
             case measure => have := HK1.out; omega
             case rel => exact ⟨(y119), (wrap64 (x18_1 + 1)), (by first | rfl | (simp; done) | (simp [*]; done)), H', ⟨by have := HK1.out; omega⟩, ⟨by (with_reducible repeat (first | apply Kd.R_alloc | apply Kd.R_drewN | apply Kd.R_drew)); exact HO_4.out⟩, ⟨by (with_reducible repeat (first | apply Kd.R_alloc | apply Kd.R_drewN | apply Kd.R_drew)); exact HO121.out⟩, ⟨by repeat (first | (with_reducible first | exact HB.out | apply below_alloc | apply pw_below_drewN | apply below_drew1) | exact HB.out)⟩⟩
            ·rw [if_neg c17] at H
             exact absurd H (by simp)
          ·rw [if_neg c14] at H
           exact absurd H (by simp)
         ·rw [if_neg c13] at H
          exact absurd H (by simp)
        ·replace c11 := Bool.eq_false_iff.mpr c11
         subst c11
         have H1 : (suffix_Firsts.l0 k1 t113 x6_1 (t113.length : Int) (wrap64 (x18_1 + 1))) = some (r1, r2) := by rw [if_neg (show ¬ (false = true) by decide)] at H; exact H
         clear H
         have H := H1
         clear H1
         have H' := Aside0.mk H
         clear H
         have p117 : 0 ≤ (x18_1 : Int) := of_decide_eq_true (by first | (with_reducible assumption) | assumption)
         have q117 : x18_1 < (t113.length : Int) := of_decide_eq_true (by first | (with_reducible assumption) | assumption)
         obtain ⟨ad117, e117, hx117_0⟩ := Kd.at_bool (Kd.R_reads' HO_4.out).2.2 x18_1 p117 q117
         (try rw [← Nbq10.out] at hx117_0)
         cases e117
         replace p117 := eq_true p117
         replace q117 := eq_true q117
         try go_wp2_with (fail)
         repeat ((go_step3); try go_wp2_with (fail))
         go_roundg k1
         case measure => have := HK1.out; omega
         case rel => exact ⟨(x6_1), (wrap64 (x18_1 + 1)), (by first | rfl | (simp; done) | (simp [*]; done)), H', ⟨by have := HK1.out; omega⟩, ⟨by (with_reducible repeat (first | apply Kd.R_alloc | apply Kd.R_drewN | apply Kd.R_drew)); exact HO_4.out⟩, ⟨by (with_reducible repeat (first | apply Kd.R_alloc | apply Kd.R_drewN | apply Kd.R_drew)); exact HO_6.out⟩, ⟨by repeat (first | (with_reducible first | exact HB.out | apply below_alloc | apply pw_below_drewN | apply below_drew1) | exact HB.out)⟩⟩
       ·rw [if_neg c9] at H
        exact absurd H (by simp)
      ·rw [if_neg c8] at H
       exact absurd H (by simp)
    ·rw [if_neg c6] at H
     have c6b0 : decide (x18_1 < (t113.length : Int)) = false := decide_eq_false c6
     clear c6
     simp only [Option.some.injEq, Prod.mk.injEq] at H
     obtain ⟨rfl, rfl⟩ := H
     try go_wp2_with (fail)
     repeat ((go_step3); try go_wp2_with (fail))
     (try rw [Exit.noGoto_ret])
     go_ret2
     exact ⟨_, by first | rfl | (simp [errW_none, errW_some] <;> rfl) | (simp [*, errW_none, errW_some] <;> rfl), by (with_reducible repeat (first | apply Kd.R_alloc | apply Kd.R_drewN | apply Kd.R_drew)); exact HO_6.out, by repeat (first | (with_reducible first | exact HB.out | apply below_alloc | apply pw_below_drewN | apply below_drew1) | exact HB.out)⟩
 ·rw [if_neg c3] at H
  have c3b0 : (t114 == 0) = false := beq_eq_false_iff_ne.mpr c3
  have c3b1 : (t114 != 0) = true := bne_iff_ne.mpr c3
  simp only [Option.some.injEq, Prod.mk.injEq] at H
  obtain ⟨rfl, rfl⟩ := H
  go_enter Try.func38, Try.ntmps38
  try go_wp2_with (first | ((with_reducible refine gate_callee (f := 58) rfl ?_); refine goesL_ (some 10) rfl rfl Try.func58 (by kernel_rfl) rfl #[.slice A0 l0.length c0] rfl (by (try simp only [List.map_toArray, List.map_cons, List.map_nil]); first | done | rfl | (simp only [List.length_drop, List.length_take]; rfl)) ?_; (with_reducible refine (suffix_Kinds.calls k _ _ l0 t113 t114 _ ?side1 ?side2 A2.out).mono ?_); (case side1 => repeat (first | exact HR0.out | (with_reducible refine Kd.C_alloc ?_ _) | (with_reducible refine Kd.C_drewN ?_ _) | (with_reducible refine Kd.C_drew ?_))); (case side2 => exact HC0.out); rintro e w19 ⟨v115, rfl, ho0, hb⟩; refine ⟨_, rfl, ?_⟩; have n0_ := Aside0.mk (Kd.R_lower ho0 (below_size (by repeat (first | (with_reducible first | exact HB.out | apply below_alloc | apply pw_below_drewN | apply below_drew1) | exact HB.out)))); have n1_ := Aside0.mk (below_step (by repeat (first | (with_reducible first | exact HB.out | apply below_alloc | apply pw_below_drewN | apply below_drew1) | exact HB.out)) hb); clear HB; have HO116 := n0_; have HB := n1_; clear n0_ n1_; (try clear hb); (try clear hb2); (try clear hk); (try clear hi); (try clear ho0)))
  repeat ((go_step3); try go_wp2_with (first | ((with_reducible refine gate_callee (f := 58) rfl ?_); refine goesL_ (some 10) rfl rfl Try.func58 (by kernel_rfl) rfl #[.slice A0 l0.length c0] rfl (by (try simp only [List.map_toArray, List.map_cons, List.map_nil]); first | done | rfl | (simp only [List.length_drop, List.length_take]; rfl)) ?_; (with_reducible refine (suffix_Kinds.calls k _ _ l0 t113 t114 _ ?side1 ?side2 A2.out).mono ?_); (case side1 => repeat (first | exact HR0.out | (with_reducible refine Kd.C_alloc ?_ _) | (with_reducible refine Kd.C_drewN ?_ _) | (with_reducible refine Kd.C_drew ?_))); (case side2 => exact HC0.out); rintro e w19 ⟨v115, rfl, ho0, hb⟩; refine ⟨_, rfl, ?_⟩; have n0_ := Aside0.mk (Kd.R_lower ho0 (below_size (by repeat (first | (with_reducible first | exact HB.out | apply below_alloc | apply pw_below_drewN | apply below_drew1) | exact HB.out)))); have n1_ := Aside0.mk (below_step (by repeat (first | (with_reducible first | exact HB.out | apply below_alloc | apply pw_below_drewN | apply below_drew1) | exact HB.out)) hb); clear HB; have HO116 := n0_; have HB := n1_; clear n0_ n1_; (try clear hb); (try clear hb2); (try clear hk); (try clear hi); (try clear ho0))))
  (try rw [Exit.noGoto_ret])
  go_ret2
  exact ⟨_, by first | rfl | (simp [errW_none, errW_some] <;> rfl) | (simp [*, errW_none, errW_some] <;> rfl), by first | exact Kd.R_nil _ _ _ _ _ | exact Kd.N_nil _ _ _ _ _ | exact Kd.V_nil _ _ _ _ _ | exact Kd.Q_nil _ _ _ _ _ | exact Kd.S_nil _ _ _ _ _, by repeat (first | (with_reducible first | exact HB.out | apply below_alloc | apply pw_below_drewN | apply below_drew1) | exact HB.out)⟩

end Go.Proofs.Ytmmacpicbonhhaa.PSal
