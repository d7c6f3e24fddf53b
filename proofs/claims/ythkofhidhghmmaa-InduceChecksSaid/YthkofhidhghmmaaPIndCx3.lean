-- Written by a program of this session (wip/tools/pp.sh, on the pattern of the kit's print): not typed by hand.
import Derived.Test.YthkofhidhghmmaaPIndCx0
import Derived.Test.YthkofhidhghmmaaPIndCx2
namespace Go.Proofs.Ythkofhidhghmmaa.PIndC
set_option maxRecDepth 100000
open Go.RowKit Go.Proofs.YthkofhidhghmmaaW.PrintWords Go.Proofs.YthkofhidhghmmaaW.PrintLast Go.Proofs.YthkofhidhghmmaaW.PrintMore
attribute [local go_sem] max2_int min2_int max_two min_two max_three min_three max_four min_four   -- for this text's walks alone
set_option linter.unusedVariables false
set_option linter.unusedSimpArgs false

/-! ### suffix_Firsts: function 23 -/
def suffix_Firsts.l0 : Nat → List Bool → List Int → Int → Int → Option (List Int × Int)
 | 0, _, _, _, _ => none
 | k + 1, x4, x6, x17, x18 => if x18 < x17 then (if x18 = 0 then (suffix_Firsts.l0 k x4 x6 x17 (wrap64 (x18 + 1))) else (if 0 ≤ x18 then (if x18 < (x4.length : Int) then (if rdOf false x4 x18 = true then (if 0 ≤ (wrap64 (x18 - 1)) then (if (wrap64 (x18 - 1)) < (x4.length : Int) then (if rdOf false x4 (wrap64 (x18 - 1)) = true then (suffix_Firsts.l0 k x4 x6 x17 (wrap64 (x18 + 1))) else (if x6.length < 17592186044416 then (suffix_Firsts.l0 k x4 (x6 ++ [x18]) x17 (wrap64 (x18 + 1))) else (none))) else (none)) else (none)) else (suffix_Firsts.l0 k x4 x6 x17 (wrap64 (x18 + 1)))) else (none)) else (none))) else (some (x6, 0))
def suffix_Firsts.f (k : Nat) (l0 : List Int) : Option (List Int × Int) := (suffix_Kinds.f k l0).bind fun bt135 => (if bt135.2 = 0 then (suffix_Firsts.l0 k bt135.1 ([] : List Int) (bt135.1.length : Int) 0) else (some (([] : List Int), bt135.2)))
theorem suffix_Firsts.mono_l : ∀ k, (∀ y0 y1 y2 y3, LeO (suffix_Firsts.l0 k y0 y1 y2 y3) (suffix_Firsts.l0 (k + 1) y0 y1 y2 y3))
 | 0 => fun _ _ _ _ r h => by simp [suffix_Firsts.l0] at h
 | k + 1 => by
  have ih0 := suffix_Firsts.mono_l k
  ·intro y0 y1 y2 y3
   unfold suffix_Firsts.l0
   repeat' first
   | (with_reducible exact ih0 _ _ _ _)
   | (with_reducible exact suffix_Kinds.mono _ _)
   | (with_reducible exact LeO.refl _)
   | (with_reducible exact LeO.none _)
   | (with_reducible refine LeO.ite ?_ ?_)
   | (with_reducible refine LeO.bind ?_ (fun _ => ?_))
   | exact ih0 _ _ _ _
   | exact suffix_Kinds.mono _ _
   | exact LeO.none _
   | refine LeO.ite ?_ ?_
   | refine LeO.bind ?_ (fun _ => ?_)
theorem suffix_Firsts.mono : ∀ a0 k, LeO (suffix_Firsts.f k a0) (suffix_Firsts.f (k + 1) a0) := by
 intro a0 k
 have ih0 := suffix_Firsts.mono_l k
 unfold suffix_Firsts.f
 repeat' first
   | (with_reducible exact ih0 _ _ _ _)
   | (with_reducible exact suffix_Kinds.mono _ _)
   | (with_reducible exact LeO.refl _)
   | (with_reducible exact LeO.none _)
   | (with_reducible refine LeO.ite ?_ ?_)
   | (with_reducible refine LeO.bind ?_ (fun _ => ?_))
   | exact ih0 _ _ _ _
   | exact suffix_Kinds.mono _ _
   | exact LeO.none _
   | refine LeO.ite ?_ ?_
   | refine LeO.bind ?_ (fun _ => ?_)
set_option maxHeartbeats 8000000 in
set_option maxRecDepth 100000 in
theorem suffix_Firsts.calls (k : Nat) (A0 : Option Addr) (c0 : Nat) (l0 : List Int) (r1 : List Int) (r2 : Int) (w : World) (hr0 : Kd.C (Kd.int .i64) w A0 l0.length l0) (hc0 : l0.length ≤ c0) (h : suffix_Firsts.f k l0 = some (r1, r2)) :
  Calls Try.prog 23 #[.slice A0 l0.length c0] w fun e w' => ∃ v0_ : Value, e = .returned (.tuple #[v0_, .int .i64 r2]) ∧ Kd.R (Kd.int .i64) 3 w' w.heap.size (fun _ => True) v0_ r1 ∧ Below w.heap.size w w' := by
 have HR0 := Aside0.mk hr0
 have HC0 := Aside0.mk hc0
 clear hr0 hc0
 have HB := Aside0.mk (Below.refl w.heap.size w)
 have H : ((suffix_Kinds.f k l0).bind fun bt135 => (if bt135.2 = 0 then (suffix_Firsts.l0 k bt135.1 ([] : List Int) (bt135.1.length : Int) 0) else (some (([] : List Int), bt135.2)))) = some (r1, r2) := h
 clear h
 replace H := Option.bind_eq_some_iff.mp H
 obtain ⟨⟨t135, t136⟩, A20, H⟩ := H
 replace H : (if t136 = 0 then (suffix_Firsts.l0 k t135 ([] : List Int) (t135.length : Int) 0) else (some (([] : List Int), t136))) = some (r1, r2) := H
 have A2 := Aside0.mk A20
 clear A20
 by_cases c3 : t136 = 0
 ·rw [if_pos c3] at H
  have c3b0 : (t136 == 0) = true := beq_iff_eq.mpr c3
  have c3b1 : (t136 != 0) = false := bne_eq_false_iff_eq.mpr c3
  clear c3
  have H' := Aside0.mk H
  clear H
  go_enter Try.func23, Try.ntmps23
  try go_wp2_with (first | ((with_reducible refine gate_callee (f := 21) rfl ?_); refine goesL_ (some 10) rfl rfl Try.func21 (by kernel_rfl) rfl #[.slice A0 l0.length c0] rfl (by (try simp only [List.map_toArray, List.map_cons, List.map_nil]); first | done | rfl | (simp only [List.length_drop, List.length_take]; rfl)) ?_; (with_reducible refine (suffix_Kinds.calls k _ _ l0 t135 t136 _ ?side1 ?side2 A2.out).mono ?_); (case side1 => repeat (first | exact HR0.out | (with_reducible refine Kd.C_alloc ?_ _) | (with_reducible refine Kd.C_drewN ?_ _) | (with_reducible refine Kd.C_drew ?_))); (case side2 => exact HC0.out); rintro e w4 ⟨v137, rfl, ho0, hb⟩; refine ⟨_, rfl, ?_⟩; have n0_ := Aside0.mk (Kd.R_lower ho0 (below_size (by repeat (first | (with_reducible first | exact HB.out | apply below_alloc | apply pw_below_drewN | apply below_drew1) | exact HB.out)))); have n1_ := Aside0.mk (below_step (by repeat (first | (with_reducible first | exact HB.out | apply below_alloc | apply pw_below_drewN | apply below_drew1) | exact HB.out)) hb); clear HB; have HO138 := n0_; have HB := n1_; clear n0_ n1_; (try clear hb); (try clear hb2); (try clear hk); (try clear hi); (try clear ho0); obtain ⟨Ao5, co5, eo5⟩ := Kd.R_slice HO138.out; subst eo5))
  repeat ((go_step3); try go_wp2_with (first | ((with_reducible refine gate_callee (f := 21) rfl ?_); refine goesL_ (some 10) rfl rfl Try.func21 (by kernel_rfl) rfl #[.slice A0 l0.length c0] rfl (by (try simp only [List.map_toArray, List.map_cons, List.map_nil]); first | done | rfl | (simp only [List.length_drop, List.length_take]; rfl)) ?_; (with_reducible refine (suffix_Kinds.calls k _ _ l0 t135 t136 _ ?side1 ?side2 A2.out).mono ?_); (case side1 => repeat (first | exact HR0.out | (with_reducible refine Kd.C_alloc ?_ _) | (with_reducible refine Kd.C_drewN ?_ _) | (with_reducible refine Kd.C_drew ?_))); (case side2 => exact HC0.out); rintro e w4 ⟨v137, rfl, ho0, hb⟩; refine ⟨_, rfl, ?_⟩; have n0_ := Aside0.mk (Kd.R_lower ho0 (below_size (by repeat (first | (with_reducible first | exact HB.out | apply below_alloc | apply pw_below_drewN | apply below_drew1) | exact HB.out)))); have n1_ := Aside0.mk (below_step (by repeat (first | (with_reducible first | exact HB.out | apply below_alloc | apply pw_below_drewN | apply below_drew1) | exact HB.out)) hb); clear HB; have HO138 := n0_; have HB := n1_; clear n0_ n1_; (try clear hb); (try clear hb2); (try clear hk); (try clear hi); (try clear ho0); obtain ⟨Ao5, co5, eo5⟩ := Kd.R_slice HO138.out; subst eo5)))
  go_loopg [6, 18] k (fun kq v6 v18 w' => ∃ (x6_1 : List Int) (x18_1 : Int), v18 = .int .i64 x18_1 ∧ Aside0 (suffix_Firsts.l0 kq t135 x6_1 (t135.length : Int) x18_1 = some (r1, r2)) ∧ Aside0 (kq ≤ k) ∧ Aside0 (Kd.R Kd.bool 4 w' w.heap.size (fun _ => True) (.slice Ao5 t135.length co5) t135) ∧ Aside0 (Kd.R (Kd.int .i64) 3 w' w.heap.size (fun _ => True) v6 x6_1) ∧ Aside0 (Below w.heap.size w w'))
  case atStart => exact ⟨(([] : List Int)), (0), (by first | rfl | (simp; done) | (simp [*]; done)), H', ⟨Nat.le_refl _⟩, ⟨by (with_reducible repeat (first | apply Kd.R_alloc | apply Kd.R_drewN | apply Kd.R_drew)); exact HO138.out⟩, ⟨by first | exact Kd.R_nil _ _ _ _ _ | exact Kd.N_nil _ _ _ _ _ | exact Kd.V_nil _ _ _ _ _ | exact Kd.Q_nil _ _ _ _ _ | exact Kd.S_nil _ _ _ _ _⟩, ⟨by repeat (first | (with_reducible first | exact HB.out | apply below_alloc | apply pw_below_drewN | apply below_drew1) | exact HB.out)⟩⟩
  case round =>
   clear H'
   try clear c2
   try clear p2
   try clear c3
   try clear c3b0
   try clear c3b1
   try clear p3
   obtain ⟨x6_1, x18_1, rfl, HA, HK1, HO_4, HO_6, HB⟩ := hrel
   cases gk with
   | zero => exact absurd HA.out (by simp [suffix_Firsts.l0])
   | succ k1 =>
    have H := HA.out
    clear HA
    simp only [suffix_Firsts.l0] at H
    by_cases c6 : x18_1 < (t135.length : Int)
    ·rw [if_pos c6] at H
     have c6b0 : decide (x18_1 < (t135.length : Int)) = true := decide_eq_true c6
     clear c6
     by_cases c7 : x18_1 = 0
     ·rw [if_pos c7] at H
      have c7b0 : (x18_1 == 0) = true := beq_iff_eq.mpr c7
      have c7b1 : (x18_1 != 0) = false := bne_eq_false_iff_eq.mpr c7
      clear c7
      have H' := Aside0.mk H
      clear H
      try go_wp2_with (fail)
      repeat ((go_step3); try go_wp2_with (fail))
      go_roundg k1
      case measure => have := HK1.out; omega
      case rel => exact ⟨(x6_1), (wrap64 (x18_1 + 1)), (by first | rfl | (simp; done) | (simp [*]; done)), H', ⟨by have := HK1.out; omega⟩, ⟨by (with_reducible repeat (first | apply Kd.R_alloc | apply Kd.R_drewN | apply Kd.R_drew)); exact HO_4.out⟩, ⟨by (with_reducible repeat (first | apply Kd.R_alloc | apply Kd.R_drewN | apply Kd.R_drew)); exact HO_6.out⟩, ⟨by repeat (first | (with_reducible first | exact HB.out | apply below_alloc | apply pw_below_drewN | apply below_drew1) | exact HB.out)⟩⟩
     ·rw [if_neg c7] at H
      have c7b0 : (x18_1 == 0) = false := beq_eq_false_iff_ne.mpr c7
      have c7b1 : (x18_1 != 0) = true := bne_iff_ne.mpr c7
      by_cases c8 : 0 ≤ x18_1
      ·rw [if_pos c8] at H
       have c8b0 : decide (0 ≤ x18_1) = true := decide_eq_true c8
       clear c8
       by_cases c9 : x18_1 < (t135.length : Int)
       ·rw [if_pos c9] at H
        have c9b0 : decide (x18_1 < (t135.length : Int)) = true := decide_eq_true c9
        clear c9
        obtain ⟨bq10, hbq10⟩ : ∃ b_ : Bool, b_ = (rdOf false t135 x18_1) := ⟨_, rfl⟩
        replace H : (if bq10 = true then (if 0 ≤ (wrap64 (x18_1 - 1)) then (if (wrap64 (x18_1 - 1)) < (t135.length : Int) then (if rdOf false t135 (wrap64 (x18_1 - 1)) = true then (suffix_Firsts.l0 k1 t135 x6_1 (t135.length : Int) (wrap64 (x18_1 + 1))) else (if x6_1.length < 17592186044416 then (suffix_Firsts.l0 k1 t135 (x6_1 ++ [x18_1]) (t135.length : Int) (wrap64 (x18_1 + 1))) else (none))) else (none)) else (none)) else (suffix_Firsts.l0 k1 t135 x6_1 (t135.length : Int) (wrap64 (x18_1 + 1)))) = some (r1, r2) := by rw [← hbq10] at H; exact H
        have Nbq10 := Aside0.mk hbq10
        clear hbq10
        by_cases c11 : bq10 = true
        ·subst c11
         have H1 : (if 0 ≤ (wrap64 (x18_1 - 1)) then (if (wrap64 (x18_1 - 1)) < (t135.length : Int) then (if rdOf false t135 (wrap64 (x18_1 - 1)) = true then (suffix_Firsts.l0 k1 t135 x6_1 (t135.length : Int) (wrap64 (x18_1 + 1))) else (if x6_1.length < 17592186044416 then (suffix_Firsts.l0 k1 t135 (x6_1 ++ [x18_1]) (t135.length : Int) (wrap64 (x18_1 + 1))) else (none))) else (none)) else (none)) = some (r1, r2) := by rw [if_pos rfl] at H; exact H
         clear H
         have H := H1
         clear H1
         obtain ⟨ji12, hji12⟩ : ∃ j_ : Int, (wrap64 (x18_1 - 1)) = j_ := ⟨_, rfl⟩
         replace H : (if 0 ≤ (ji12) then (if (ji12) < (t135.length : Int) then (if rdOf false t135 (ji12) = true then (suffix_Firsts.l0 k1 t135 x6_1 (t135.length : Int) (wrap64 (x18_1 + 1))) else (if x6_1.length < 17592186044416 then (suffix_Firsts.l0 k1 t135 (x6_1 ++ [x18_1]) (t135.length : Int) (wrap64 (x18_1 + 1))) else (none))) else (none)) else (none)) = some (r1, r2) := by first | (rw [hji12] at H; exact H) | (simp only [hji12] at H ⊢; exact H)
         have hji12w : (IntKind.i64.wrap (x18_1 - 1)) = ji12 := (i64_w _).trans hji12
         by_cases c13 : 0 ≤ (ji12)
         ·rw [if_pos c13] at H
          have c13b0 : decide (0 ≤ (ji12)) = true := decide_eq_true c13
          clear c13
          by_cases c14 : (ji12) < (t135.length : Int)
          ·rw [if_pos c14] at H
           have c14b0 : decide ((ji12) < (t135.length : Int)) = true := decide_eq_true c14
           clear c14
           obtain ⟨bq15, hbq15⟩ : ∃ b_ : Bool, b_ = (rdOf false t135 (ji12)) := ⟨_, rfl⟩
           replace H : (if bq15 = true then (suffix_Firsts.l0 k1 t135 x6_1 (t135.length : Int) (wrap64 (x18_1 + 1))) else (if x6_1.length < 17592186044416 then (suffix_Firsts.l0 k1 t135 (x6_1 ++ [x18_1]) (t135.length : Int) (wrap64 (x18_1 + 1))) else (none))) = some (r1, r2) := by rw [← hbq15] at H; exact H
           have Nbq15 := Aside0.mk hbq15
           clear hbq15
           by_cases c16 : bq15 = true
           ·subst c16
            have H1 : (suffix_Firsts.l0 k1 t135 x6_1 (t135.length : Int) (wrap64 (x18_1 + 1))) = some (r1, r2) := by rw [if_pos rfl] at H; exact H
            clear H
            have H := H1
            clear H1
            have H' := Aside0.mk H
            clear H
            have p139 : 0 ≤ (x18_1 : Int) := of_decide_eq_true (by first | (with_reducible assumption) | assumption)
            have q139 : x18_1 < (t135.length : Int) := of_decide_eq_true (by first | (with_reducible assumption) | assumption)
            obtain ⟨ad139, e139, hx139_0⟩ := Kd.at_bool (Kd.R_reads' HO_4.out).2.2 x18_1 p139 q139
            (try rw [← Nbq10.out] at hx139_0)
            (try rw [← Nbq15.out] at hx139_0)
            cases e139
            replace p139 := eq_true p139
            replace q139 := eq_true q139
            have p140 : 0 ≤ ((ji12) : Int) := of_decide_eq_true (by first | (with_reducible assumption) | assumption)
            have q140 : (ji12) < (t135.length : Int) := of_decide_eq_true (by first | (with_reducible assumption) | assumption)
            obtain ⟨ad140, e140, hx140_0⟩ := Kd.at_bool (Kd.R_reads' HO_4.out).2.2 (ji12) p140 q140
            (try rw [← Nbq10.out] at hx140_0)
            (try rw [← Nbq15.out] at hx140_0)
            obtain rfl : ad139 = ad140 := (by injection e140)
            replace p140 := eq_true p140
            replace q140 := eq_true q140
            try go_wp2_with (fail)
            repeat ((go_step3); try go_wp2_with (fail))
            go_roundg k1
            case measure => have := HK1.out; omega
            case rel => exact ⟨(x6_1), (wrap64 (x18_1 + 1)), (by first | rfl | (simp; done) | (simp [*]; done)), H', ⟨by have := HK1.out; omega⟩, ⟨by (with_reducible repeat (first | apply Kd.R_alloc | apply Kd.R_drewN | apply Kd.R_drew)); exact HO_4.out⟩, ⟨by (with_reducible repeat (first | apply Kd.R_alloc | apply Kd.R_drewN | apply Kd.R_drew)); exact HO_6.out⟩, ⟨by repeat (first | (with_reducible first | exact HB.out | apply below_alloc | apply pw_below_drewN | apply below_drew1) | exact HB.out)⟩⟩
           ·replace c16 := Bool.eq_false_iff.mpr c16
            subst c16
            have H1 : (if x6_1.length < 17592186044416 then (suffix_Firsts.l0 k1 t135 (x6_1 ++ [x18_1]) (t135.length : Int) (wrap64 (x18_1 + 1))) else (none)) = some (r1, r2) := by rw [if_neg (show ¬ (false = true) by decide)] at H; exact H
            clear H
            have H := H1
            clear H1
            by_cases c17 : x6_1.length < 17592186044416
            ·rw [if_pos c17] at H
             have LMc17 := Aside0.mk c17
             clear c17
             obtain ⟨y141, hy141⟩ : ∃ y_ : List Int, y_ = (x6_1 ++ [x18_1]) := ⟨_, rfl⟩
             replace H : (suffix_Firsts.l0 k1 t135 y141 (t135.length : Int) (wrap64 (x18_1 + 1))) = some (r1, r2) := by first | (rw [hy141]; with_reducible exact H) | (have H2_ := (Option.bind_some _ _).symm.trans H; rw [hy141]; with_reducible exact H2_) | (have H2_ := (Option.bind_some _ _).symm.trans H; with_reducible exact H2_) | with_reducible exact H | (rw [hy141]; exact H) | exact H
             have Ny141 := Aside0.mk hy141
             clear hy141
             have H' := Aside0.mk H
             clear H
             have p139 : 0 ≤ (x18_1 : Int) := of_decide_eq_true (by first | (with_reducible assumption) | assumption)
             have q139 : x18_1 < (t135.length : Int) := of_decide_eq_true (by first | (with_reducible assumption) | assumption)
             obtain ⟨ad139, e139, hx139_0⟩ := Kd.at_bool (Kd.R_reads' HO_4.out).2.2 x18_1 p139 q139
             (try rw [← Nbq10.out] at hx139_0)
             (try rw [← Nbq15.out] at hx139_0)
             cases e139
             replace p139 := eq_true p139
             replace q139 := eq_true q139
             have p140 : 0 ≤ ((ji12) : Int) := of_decide_eq_true (by first | (with_reducible assumption) | assumption)
             have q140 : (ji12) < (t135.length : Int) := of_decide_eq_true (by first | (with_reducible assumption) | assumption)
             obtain ⟨ad140, e140, hx140_0⟩ := Kd.at_bool (Kd.R_reads' HO_4.out).2.2 (ji12) p140 q140
             (try rw [← Nbq10.out] at hx140_0)
             (try rw [← Nbq15.out] at hx140_0)
             obtain rfl : ad139 = ad140 := (by injection e140)
             replace p140 := eq_true p140
             replace q140 := eq_true q140
             try go_wp2_with (first | ((with_reducible refine gate_builtin (b := .append) (xs := #[.tmp 37, .tmp 39]) rfl ?_); at_builtin; refine Kd.R_append (Kd.int .i64) (w0 := w) w.heap.size rfl (.tmp 37) (.tmp 39) 22 3 (.int .i64 0) 8 rfl Try.underlying22 info3 rfl (by decide) (by omega) u6 x6_1 x18_1 [.int .i64 x18_1] (fun _ => True) (fun _ => False) rfl rfl ?aP (fun _ hk => hk.elim) ?aF ?aO ?aB ?aS ?aL ?_; (case aP => exact rfl); (case aB => exact (by repeat (first | (with_reducible first | exact HB.out | apply below_alloc | apply pw_below_drewN | apply below_drew1) | exact HB.out))); (case aF => exact (fun _ _ => trivial)); (case aO => exact (by (with_reducible repeat (first | apply Kd.R_alloc | apply Kd.R_drewN | apply Kd.R_drew)); exact HO_6.out)); (case aS => exact (below_size (by repeat (first | (with_reducible first | exact HB.out | apply below_alloc | apply pw_below_drewN | apply below_drew1) | exact HB.out)))); (case aL => have := LMc17.out; omega); intro v142 w18 ho hb hg hat; rw [← Ny141.out] at ho; have n0_ := Aside0.mk (Kd.R_over' (by (with_reducible repeat (first | apply Kd.R_alloc | apply Kd.R_drewN | apply Kd.R_drew)); exact HO_4.out) (Kd.R_typed (by (with_reducible repeat (first | apply Kd.R_alloc | apply Kd.R_drewN | apply Kd.R_drew)); exact HO_6.out)) (by decide) hg); have n1_ := Aside0.mk (hb); have n2_ := Aside0.mk (ho); clear HO_4; clear HB; clear HO_6; have HO_4 := n0_; have HB := n1_; have HO143 := n2_; clear n0_ n1_ n2_; clear ho hb hg hat))
             repeat ((go_step3); try go_wp2_with (first | ((with_reducible refine gate_builtin (b := .append) (xs := #[.tmp 37, .tmp 39]) rfl ?_); at_builtin; refine Kd.R_append (Kd.int .i64) (w0 := w) w.heap.size rfl (.tmp 37) (.tmp 39) 22 3 (.int .i64 0) 8 rfl Try.underlying22 info3 rfl (by decide) (by omega) u6 x6_1 x18_1 [.int .i64 x18_1] (fun _ => True) (fun _ => False) rfl rfl ?aP (fun _ hk => hk.elim) ?aF ?aO ?aB ?aS ?aL ?_; (case aP => exact rfl); (case aB => exact (by repeat (first | (with_reducible first | exact HB.out | apply below_alloc | apply pw_below_drewN | apply below_drew1) | exact HB.out))); (case aF => exact (fun _ _ => trivial)); (case aO => exact (by (with_reducible repeat (first | apply Kd.R_alloc | apply Kd.R_drewN | apply Kd.R_drew)); exact HO_6.out)); (case aS => exact (below_size (by repeat (first | (with_reducible first | exact HB.out | apply below_alloc | apply pw_below_drewN | apply below_drew1) | exact HB.out)))); (case aL => have := LMc17.out; omega); intro v142 w18 ho hb hg hat; rw [← Ny141.out] at ho; have n0_ := Aside0.mk (Kd.R_over' (by (with_reducible repeat (first | apply Kd.R_alloc | apply Kd.R_drewN | apply Kd.R_drew)); exact HO_4.out) (Kd.R_typed (by (with_reducible repeat (first | apply Kd.R_alloc | apply Kd.R_drewN | apply Kd.R_drew)); exact HO_6.out)) (by decide) hg); have n1_ := Aside0.mk (hb); have n2_ := Aside0.mk (ho); clear HO_4; clear HB; clear HO_6; have HO_4 := n0_; have HB := n1_; have HO143 := n2_; clear n0_ n1_ n2_; clear ho hb hg hat)))
             go_roundg k1
             case measure => have := HK1.out; omega
             case rel => exact ⟨(y141), (wrap64 (x18_1 + 1)), (by first | rfl | (simp; done) | (simp [*]; done)), H', ⟨by have := HK1.out; omega⟩, ⟨by (with_reducible repeat (first | apply Kd.R_alloc | apply Kd.R_drewN | apply Kd.R_drew)); exact HO_4.out⟩, ⟨by (with_reducible repeat (first | apply Kd.R_alloc | apply Kd.R_drewN | apply Kd.R_drew)); exact HO143.out⟩, ⟨by repeat (first | (with_reducible first | exact HB.out | apply below_alloc | apply pw_below_drewN | apply below_drew1) | exact HB.out)⟩⟩
            ·rw [if_neg c17] at H
             exact absurd H (by simp)
          ·rw [if_neg c14] at H
           exact absurd H (by simp)
         ·rw [if_neg c13] at H
          exact absurd H (by simp)
        ·replace c11 := Bool.eq_false_iff.mpr c11
         subst c11
         have H1 : (suffix_Firsts.l0 k1 t135 x6_1 (t135.length : Int) (wrap64 (x18_1 + 1))) = some (r1, r2) := by rw [if_neg (show ¬ (false = true) by decide)] at H; exact H
         clear H
         have H := H1
         clear H1
         have H' := Aside0.mk H
         clear H
         have p139 : 0 ≤ (x18_1 : Int) := of_decide_eq_true (by first | (with_reducible assumption) | assumption)
         have q139 : x18_1 < (t135.length : Int) := of_decide_eq_true (by first | (with_reducible assumption) | assumption)
         obtain ⟨ad139, e139, hx139_0⟩ := Kd.at_bool (Kd.R_reads' HO_4.out).2.2 x18_1 p139 q139
         (try rw [← Nbq10.out] at hx139_0)
         cases e139
         replace p139 := eq_true p139
         replace q139 := eq_true q139
         try go_wp2_with (fail)
         repeat ((go_step3); try go_wp2_with (fail))
         go_roundg k1
         case measure => have := HK1.out; omega
         case rel => exact ⟨(x6_1), (wrap64 (x18_1 + 1)), (by first | rfl | (simp; done) | (simp [*]; done)), H', ⟨by have := HK1.out; omega⟩, ⟨by (with_reducible repeat (first | apply Kd.R_alloc | apply Kd.R_drewN | apply Kd.R_drew)); exact HO_4.out⟩, ⟨by (with_reducible repeat (first | apply Kd.R_alloc | apply Kd.R_drewN | apply Kd.R_drew)); exact HO_6.out⟩, ⟨by repeat (first | (with_reducible first | exact HB.out | apply below_alloc | apply pw_below_drewN | apply below_drew1) | exact HB.out)⟩⟩
       ·rw [if_neg c9] at H
        exact absurd H (by simp)
      ·rw [if_neg c8] at H
       exact absurd H (by simp)
    ·rw [if_neg c6] at H
     have c6b0 : decide (x18_1 < (t135.length : Int)) = false := decide_eq_false c6
     clear c6
     simp only [Option.some.injEq, Prod.mk.injEq] at H
     obtain ⟨rfl, rfl⟩ := H
     try go_wp2_with (fail)
     repeat ((go_step3); try go_wp2_with (fail))
     (try rw [Exit.noGoto_ret])
     go_ret2
     exact ⟨_, by first | rfl | (simp [errW_none, errW_some] <;> rfl) | (simp [*, errW_none, errW_some] <;> rfl), by (with_reducible repeat (first | apply Kd.R_alloc | apply Kd.R_drewN | apply Kd.R_drew)); exact HO_6.out, by repeat (first | (with_reducible first | exact HB.out | apply below_alloc | apply pw_below_drewN | apply below_drew1) | exact HB.out)⟩
 ·rw [if_neg c3] at H
  have c3b0 : (t136 == 0) = false := beq_eq_false_iff_ne.mpr c3
  have c3b1 : (t136 != 0) = true := bne_iff_ne.mpr c3
  simp only [Option.some.injEq, Prod.mk.injEq] at H
  obtain ⟨rfl, rfl⟩ := H
  go_enter Try.func23, Try.ntmps23
  try go_wp2_with (first | ((with_reducible refine gate_callee (f := 21) rfl ?_); refine goesL_ (some 10) rfl rfl Try.func21 (by kernel_rfl) rfl #[.slice A0 l0.length c0] rfl (by (try simp only [List.map_toArray, List.map_cons, List.map_nil]); first | done | rfl | (simp only [List.length_drop, List.length_take]; rfl)) ?_; (with_reducible refine (suffix_Kinds.calls k _ _ l0 t135 t136 _ ?side1 ?side2 A2.out).mono ?_); (case side1 => repeat (first | exact HR0.out | (with_reducible refine Kd.C_alloc ?_ _) | (with_reducible refine Kd.C_drewN ?_ _) | (with_reducible refine Kd.C_drew ?_))); (case side2 => exact HC0.out); rintro e w19 ⟨v137, rfl, ho0, hb⟩; refine ⟨_, rfl, ?_⟩; have n0_ := Aside0.mk (Kd.R_lower ho0 (below_size (by repeat (first | (with_reducible first | exact HB.out | apply below_alloc | apply pw_below_drewN | apply below_drew1) | exact HB.out)))); have n1_ := Aside0.mk (below_step (by repeat (first | (with_reducible first | exact HB.out | apply below_alloc | apply pw_below_drewN | apply below_drew1) | exact HB.out)) hb); clear HB; have HO138 := n0_; have HB := n1_; clear n0_ n1_; (try clear hb); (try clear hb2); (try clear hk); (try clear hi); (try clear ho0)))
  repeat ((go_step3); try go_wp2_with (first | ((with_reducible refine gate_callee (f := 21) rfl ?_); refine goesL_ (some 10) rfl rfl Try.func21 (by kernel_rfl) rfl #[.slice A0 l0.length c0] rfl (by (try simp only [List.map_toArray, List.map_cons, List.map_nil]); first | done | rfl | (simp only [List.length_drop, List.length_take]; rfl)) ?_; (with_reducible refine (suffix_Kinds.calls k _ _ l0 t135 t136 _ ?side1 ?side2 A2.out).mono ?_); (case side1 => repeat (first | exact HR0.out | (with_reducible refine Kd.C_alloc ?_ _) | (with_reducible refine Kd.C_drewN ?_ _) | (with_reducible refine Kd.C_drew ?_))); (case side2 => exact HC0.out); rintro e w19 ⟨v137, rfl, ho0, hb⟩; refine ⟨_, rfl, ?_⟩; have n0_ := Aside0.mk (Kd.R_lower ho0 (below_size (by repeat (first | (with_reducible first | exact HB.out | apply below_alloc | apply pw_below_drewN | apply below_drew1) | exact HB.out)))); have n1_ := Aside0.mk (below_step (by repeat (first | (with_reducible first | exact HB.out | apply below_alloc | apply pw_below_drewN | apply below_drew1) | exact HB.out)) hb); clear HB; have HO138 := n0_; have HB := n1_; clear n0_ n1_; (try clear hb); (try clear hb2); (try clear hk); (try clear hi); (try clear ho0))))
  (try rw [Exit.noGoto_ret])
  go_ret2
  exact ⟨_, by first | rfl | (simp [errW_none, errW_some] <;> rfl) | (simp [*, errW_none, errW_some] <;> rfl), by first | exact Kd.R_nil _ _ _ _ _ | exact Kd.N_nil _ _ _ _ _ | exact Kd.V_nil _ _ _ _ _ | exact Kd.Q_nil _ _ _ _ _ | exact Kd.S_nil _ _ _ _ _, by repeat (first | (with_reducible first | exact HB.out | apply below_alloc | apply pw_below_drewN | apply below_drew1) | exact HB.out)⟩

/-! ### induce_induced: function 64 (by hand) -/
def induce_induced.f (k : Nat) (l0 l1 : List Int) : Option (List Int) := if l0.length = 1 then some [0] else (suffix_Kinds.f k l0).bind fun q => if IndPre l0 l1 q.1 q.2 then some (Ind.ind l0 (l1.map Int.toNat)) else none
theorem induce_induced.mono : ∀ a0 a1 k, LeO (induce_induced.f k a0 a1) (induce_induced.f (k + 1) a0 a1) := by
 intro a0 a1 k r h
 unfold induce_induced.f at h ⊢
 by_cases h1 : a0.length = 1
 ·rw [if_pos h1] at h ⊢; exact h
 ·rw [if_neg h1] at h ⊢
  obtain ⟨q, hq, h⟩ := Option.bind_eq_some_iff.1 h
  rw [suffix_Kinds.mono _ _ _ hq, Option.bind_some]
  exact h
theorem induce_induced.own (k : Nat) (A0 : Option Addr) (c0 : Nat) (l0 : List Int) (A1 : Option Addr) (c1 : Nat) (l1 : List Int) (r : List Int) (w : World) (hr0 : Kd.C (Kd.int .i64) w A0 l0.length l0) (hc0 : l0.length ≤ c0) (hr1 : Kd.C (Kd.int .i64) w A1 l1.length l1) (hc1 : l1.length ≤ c1) (h : induce_induced.f k l0 l1 = some r) :
  Calls Try.prog 64 #[.slice A0 l0.length c0, .slice A1 l1.length c1] w (Ret1 w r) := by
 unfold induce_induced.f at h
 by_cases h1 : l0.length = 1
 ·rw [if_pos h1] at h
  cases h
  exact induced_one A0 A1 c0 c1 l0 l1 w h1
 ·rw [if_neg h1] at h
  obtain ⟨⟨ks, e2⟩, hq, h⟩ := Option.bind_eq_some_iff.1 h
  by_cases hp : IndPre l0 l1 ks e2
  ·rw [if_pos hp] at h
   cases h
   have hr0' := rd_of_kdc hr0 hc0 hp.codes.wf
   have hr1' := rd_of_kdc hr1 hc1 hp.wf1
   refine induced_own A0 A1 c0 c1 l0 l1 w ks e2 hr0' hr1' h1 hp fun w' hu => Lib.hid ?_
   refine (suffix_Kinds.calls k A0 c0 l0 ks e2 w' (kd_of_rd (hr0'.up hu)) hc0 hq).mono fun en w'' hh => ?_
   obtain ⟨v, he, hv, hb⟩ := hh
   exact kdPost_of he hv hb hp
  ·rw [if_neg hp] at h; cases h
theorem induce_induced.calls (k : Nat) (A0 : Option Addr) (c0 : Nat) (l0 : List Int) (A1 : Option Addr) (c1 : Nat) (l1 : List Int) (r : List Int) (w : World) (hr0 : Kd.C (Kd.int .i64) w A0 l0.length l0) (hc0 : l0.length ≤ c0) (hr1 : Kd.C (Kd.int .i64) w A1 l1.length l1) (hc1 : l1.length ≤ c1) (h : induce_induced.f k l0 l1 = some r) :
  Calls Try.prog 64 #[.slice A0 l0.length c0, .slice A1 l1.length c1] w fun e w' => ∃ v0_ : Value, e = .returned (v0_) ∧ Kd.R (Kd.int .i64) 3 w' w.heap.size (fun _ => True) v0_ r ∧ Below w.heap.size w w' :=
 (induce_induced.own k A0 c0 l0 A1 c1 l1 r w hr0 hc0 hr1 hc1 h).mono fun _ _ hp => by
  obtain ⟨v, he, hv, hu⟩ := hp.out
  exact ⟨v, he, kd_of_own hv fun _ _ => trivial, hu.out⟩


/-! ### induce_Induce: function 39 (by hand) -/
def induce_Induce.f (k : Nat) (l0 l1 : List Int) : Option (List Int × Int) := if inKs .i64 l0 = true ∧ inKs .i64 l1 = true ∧ l1.length ≤ 65536 then (suffix_Firsts.f k l0).bind fun q => if q.2 = 0 then (if inKs .i64 q.1 = true ∧ q.1.Pairwise (· ≤ ·) then (if l1.isPerm q.1 = true then (induce_induced.f k l0 l1).bind fun r => some (r, 0) else some ([], 3)) else none) else (if inKs .i64 q.1 = true then some ([], q.2) else none) else none
theorem induce_Induce.mono : ∀ a0 a1 k, LeO (induce_Induce.f k a0 a1) (induce_Induce.f (k + 1) a0 a1) := by
 intro a0 a1 k r h
 unfold induce_Induce.f at h ⊢
 by_cases h1 : inKs .i64 a0 = true ∧ inKs .i64 a1 = true ∧ a1.length ≤ 65536
 ·rw [if_pos h1] at h ⊢
  obtain ⟨q, hq, h⟩ := Option.bind_eq_some_iff.1 h
  rw [suffix_Firsts.mono _ _ _ hq, Option.bind_some]
  by_cases h2 : q.2 = 0
  ·rw [if_pos h2] at h ⊢
   by_cases h3 : inKs .i64 q.1 = true ∧ q.1.Pairwise (· ≤ ·)
   ·rw [if_pos h3] at h ⊢
    by_cases h4 : a1.isPerm q.1 = true
    ·rw [if_pos h4] at h ⊢
     obtain ⟨r', hr', h⟩ := Option.bind_eq_some_iff.1 h
     rw [induce_induced.mono _ _ _ _ hr', Option.bind_some]
     exact h
    ·rw [if_neg h4] at h ⊢; exact h
   ·rw [if_neg h3] at h; cases h
  ·rw [if_neg h2] at h ⊢; exact h
 ·rw [if_neg h1] at h; cases h
theorem induce_Induce.calls (k : Nat) (A0 : Option Addr) (c0 : Nat) (l0 : List Int) (A1 : Option Addr) (c1 : Nat) (l1 : List Int) (r1 : List Int) (r2 : Int) (w : World) (hr0 : Kd.C (Kd.int .i64) w A0 l0.length l0) (hc0 : l0.length ≤ c0) (hr1 : Kd.C (Kd.int .i64) w A1 l1.length l1) (hc1 : l1.length ≤ c1) (h : induce_Induce.f k l0 l1 = some (r1, r2)) :
  Calls Try.prog 39 #[.slice A0 l0.length c0, .slice A1 l1.length c1] w fun e w' => ∃ v0_ : Value, e = .returned (.tuple #[v0_, .int .i64 r2]) ∧ Kd.R (Kd.int .i64) 3 w' w.heap.size (fun _ => True) v0_ r1 ∧ Below w.heap.size w w' := by
 unfold induce_Induce.f at h
 by_cases h1 : inKs .i64 l0 = true ∧ inKs .i64 l1 = true ∧ l1.length ≤ 65536
 ·rw [if_pos h1] at h
  have hrd0 := rd_of_kdc hr0 hc0 (inKs_of h1.1)
  have hrd1 := rd_of_kdc hr1 hc1 (inKs_of h1.2.1)
  obtain ⟨⟨all, e⟩, hq, h⟩ := Option.bind_eq_some_iff.1 h
  have hck : inKs .i64 all = true → Hid (Calls Try.prog 23 #[.slice A0 l0.length c0] w (Ret2 w all e)) := fun hi => Lib.hid ((suffix_Firsts.calls k A0 c0 l0 all e w hr0 hc0 hq).mono fun _ _ hh => by
   obtain ⟨v, he, hv, hb⟩ := hh
   exact ⟨v, he, own_of_kd hv (inKs_of hi), ⟨hb⟩⟩)
  have fin : ∀ {r1 : List Int} {r2 : Int}, Calls Try.prog 39 #[.slice A0 l0.length c0, .slice A1 l1.length c1] w (Ret2 w r1 r2) → Calls Try.prog 39 #[.slice A0 l0.length c0, .slice A1 l1.length c1] w fun e w' => ∃ v0_ : Value, e = .returned (.tuple #[v0_, .int .i64 r2]) ∧ Kd.R (Kd.int .i64) 3 w' w.heap.size (fun _ => True) v0_ r1 ∧ Below w.heap.size w w' :=
   fun h => h.mono fun _ _ hp => by
    obtain ⟨v, he, hv, hu⟩ := hp.out
    exact ⟨v, he, kd_of_own hv fun _ _ => trivial, hu.out⟩
  by_cases h0 : e = 0
  ·subst h0
   rw [if_pos rfl] at h
   by_cases h3 : inKs .i64 all = true ∧ all.Pairwise (· ≤ ·)
   ·rw [if_pos h3] at h
    by_cases h4 : l1.isPerm all = true
    ·rw [if_pos h4] at h
     obtain ⟨r', hr', h⟩ := Option.bind_eq_some_iff.1 h
     cases h
     have := indInduce_ok A0 A1 c0 c1 l0 l1 w hrd1 h1.2.2 all (Lib.hid h3.2) (hck h3.1) _ fun _ w' hu => Lib.hid (induce_induced.own k A0 c0 l0 A1 c1 l1 _ w' (kd_of_rd (hrd0.up hu)) hc0 (kd_of_rd (hrd1.up hu)) hc1 hr')
     unfold indRes indErr at this
     rw [if_pos h4, if_pos h4] at this
     exact fin this
    ·rw [if_neg h4] at h
     cases h
     have := indInduce_ok A0 A1 c0 c1 l0 l1 w hrd1 h1.2.2 all (Lib.hid h3.2) (hck h3.1) [] fun hp => absurd (List.isPerm_iff.2 hp) h4
     unfold indRes indErr at this
     rw [if_neg h4, if_neg h4] at this
     exact fin this
   ·rw [if_neg h3] at h; cases h
  ·rw [if_neg h0] at h
   by_cases h3 : inKs .i64 all = true
   ·rw [if_pos h3] at h
    cases h
    exact fin (indInduce_bad A0 A1 c0 c1 l0 l1 w _ h0 all (hck h3))
   ·rw [if_neg h3] at h; cases h
 ·rw [if_neg h1] at h; cases h


/-! ### incipitlaw16_known: function 38 (by hand) -/
def incipitlaw16_known.ok (k : Nat) : Prop := induce_Heads.f k [2, 1, 2, 1, 0] = some ([0, 1, 3], 0) ∧ induce_Tails.f k [2, 1, 2, 1, 0] = some ([1, 3, 5], 0) ∧ induce_Induce.f k [2, 1, 2, 1, 0] [4, 1] = some ([4, 3, 1, 2, 0], 0) ∧ incipitref06_Same.f k [0, 1, 3] [0, 1, 3] = some true ∧ incipitref06_Same.f k [1, 3, 5] [1, 3, 5] = some true ∧ incipitref06_Same.f k [4, 3, 1, 2, 0] [4, 3, 1, 2, 0] = some true
instance (k : Nat) : Decidable (incipitlaw16_known.ok k) := by unfold incipitlaw16_known.ok; infer_instance
def incipitlaw16_known.f (k : Nat) : Option Bool := if incipitlaw16_known.ok k then some true else none
theorem incipitlaw16_known.mono : ∀ k, LeO (incipitlaw16_known.f k) (incipitlaw16_known.f (k + 1)) := by
 intro k r h
 unfold incipitlaw16_known.f at h ⊢
 by_cases h1 : incipitlaw16_known.ok k
 ·rw [if_pos h1] at h
  obtain ⟨g1, g2, g3, g4, g5, g6⟩ := h1
  rw [if_pos ⟨induce_Heads.mono _ _ _ g1, induce_Tails.mono _ _ _ g2, induce_Induce.mono _ _ _ _ g3, incipitref06_Same.mono _ _ _ _ g4, incipitref06_Same.mono _ _ _ _ g5, incipitref06_Same.mono _ _ _ _ g6⟩]
  exact h
 ·rw [if_neg h1] at h; cases h
set_option maxHeartbeats 4000000 in
set_option maxRecDepth 100000 in
theorem incipitlaw16_known.calls (k : Nat) (r : Bool) (w : World) (h : incipitlaw16_known.f k = some r) :
  Calls Try.prog 38 #[] w fun e w' => e = .returned (.bool r) ∧ Below w.heap.size w w' := by
 unfold incipitlaw16_known.f at h
 by_cases h1 : incipitlaw16_known.ok k
 ·rw [if_pos h1] at h
  obtain rfl := Option.some.inj h
  obtain ⟨g1, g2, g3, g4, g5, g6⟩ := h1
  exact ind16_known w (fun A c w' hr => (induce_Heads.calls k A c _ _ _ w' (kd_of_rd hr) hr.le g1).mono fun _ _ ⟨v, he, hv, hb⟩ => ⟨v, he, own_of_kd hv (i64_small (by decide)), ⟨hb⟩⟩) (fun A c w' hr => (induce_Tails.calls k A c _ _ _ w' (kd_of_rd hr) hr.le g2).mono fun _ _ ⟨v, he, hv, hb⟩ => ⟨v, he, own_of_kd hv (i64_small (by decide)), ⟨hb⟩⟩)
   (fun A c B d w' hr hs => (induce_Induce.calls k A c _ B d _ _ _ w' (kd_of_rd hr) hr.le (kd_of_rd hs) hs.le g3).mono fun _ _ ⟨v, he, hv, hb⟩ => ⟨v, he, own_of_kd hv (i64_small (by decide)), ⟨hb⟩⟩)
   (fun A c B d w' hr hs => (incipitref06_Same.calls k A c _ B d _ _ w' (kd_of_rd hr) hr.le (kd_of_rd hs) hs.le g4).mono fun _ _ ⟨he, hd⟩ => ⟨he, hd.out⟩)
   (fun A c B d w' hr hs => (incipitref06_Same.calls k A c _ B d _ _ w' (kd_of_rd hr) hr.le (kd_of_rd hs) hs.le g5).mono fun _ _ ⟨he, hd⟩ => ⟨he, hd.out⟩)
   (fun A c B d w' hr hs => (incipitref06_Same.calls k A c _ B d _ _ w' (kd_of_rd hr) hr.le (kd_of_rd hs) hs.le g6).mono fun _ _ ⟨he, hd⟩ => ⟨he, hd.out⟩)
 ·rw [if_neg h1] at h; cases h


/-! ### suffix_Turned: function 14 -/
mutual
def suffix_Turned.l0 : Nat → List Int → List Int → Int → Int → Option (List Int × Int)
 | 0, _, _, _, _ => none
 | k + 1, x0, x4, x12, x13 => if x13 < x12 then (if 0 ≤ x13 then (if x13 < (x4.length : Int) then (suffix_Turned.l0 k x0 (x4.set (x13 : Int).toNat (-1)) x12 (wrap64 (x13 + 1))) else (none)) else (none)) else (suffix_Turned.l1 k x0 x4 x0 (x0.length : Int) 0)
def suffix_Turned.l1 : Nat → List Int → List Int → List Int → Int → Int → Option (List Int × Int)
 | 0, _, _, _, _, _ => none
 | k + 1, x0, x4, x20, x21, x22 => if x22 < x21 then (if 0 ≤ x22 then (if x22 < (x20.length : Int) then (if (rd x20 x22) < 0 then (some (([] : List Int), 3)) else (if (rd x20 x22) ≥ (x0.length : Int) then (some (([] : List Int), 3)) else (if 0 ≤ (rd x20 x22) then (if (rd x20 x22) < (x4.length : Int) then (if (rd x4 (rd x20 x22)) ≥ 0 then (some (([] : List Int), 3)) else (suffix_Turned.l1 k x0 (x4.set ((rd x20 x22) : Int).toNat x22) x20 x21 (wrap64 (x22 + 1)))) else (none)) else (none)))) else (none)) else (none)) else (some (x4, 0))
end
def suffix_Turned.f (k : Nat) (l0 : List Int) : Option (List Int × Int) := if 0 ≤ (l0.length : Int) then (if ((l0.length : Int) : Int).toNat ≤ 35184372088832 then ((some (List.replicate ((l0.length : Int) : Int).toNat 0 : List Int)).bind fun y144 => (suffix_Turned.l0 k l0 y144 (y144.length : Int) 0)) else (none)) else (none)
theorem suffix_Turned.mono_l : ∀ k, (∀ y0 y1 y2 y3, LeO (suffix_Turned.l0 k y0 y1 y2 y3) (suffix_Turned.l0 (k + 1) y0 y1 y2 y3)) ∧ (∀ y0 y1 y2 y3 y4, LeO (suffix_Turned.l1 k y0 y1 y2 y3 y4) (suffix_Turned.l1 (k + 1) y0 y1 y2 y3 y4))
 | 0 => ⟨fun _ _ _ _ r h => by simp [suffix_Turned.l0] at h, fun _ _ _ _ _ r h => by simp [suffix_Turned.l1] at h⟩
 | k + 1 => by
  obtain ⟨ih0, ih1⟩ := suffix_Turned.mono_l k
  refine ⟨?_, ?_⟩
  ·intro y0 y1 y2 y3
   unfold suffix_Turned.l0
   repeat' first
   | (with_reducible exact ih0 _ _ _ _)
   | (with_reducible exact ih1 _ _ _ _ _)
   | (with_reducible exact LeO.refl _)
   | (with_reducible exact LeO.none _)
   | (with_reducible refine LeO.ite ?_ ?_)
   | (with_reducible refine LeO.bind ?_ (fun _ => ?_))
   | exact ih0 _ _ _ _
   | exact ih1 _ _ _ _ _
   | exact LeO.none _
   | refine LeO.ite ?_ ?_
   | refine LeO.bind ?_ (fun _ => ?_)
  ·intro y0 y1 y2 y3 y4
   unfold suffix_Turned.l1
   repeat' first
   | (with_reducible exact ih0 _ _ _ _)
   | (with_reducible exact ih1 _ _ _ _ _)
   | (with_reducible exact LeO.refl _)
   | (with_reducible exact LeO.none _)
   | (with_reducible refine LeO.ite ?_ ?_)
   | (with_reducible refine LeO.bind ?_ (fun _ => ?_))
   | exact ih0 _ _ _ _
   | exact ih1 _ _ _ _ _
   | exact LeO.none _
   | refine LeO.ite ?_ ?_
   | refine LeO.bind ?_ (fun _ => ?_)
theorem suffix_Turned.mono : ∀ a0 k, LeO (suffix_Turned.f k a0) (suffix_Turned.f (k + 1) a0) := by
 intro a0 k
 obtain ⟨ih0, ih1⟩ := suffix_Turned.mono_l k
 unfold suffix_Turned.f
 repeat' first
   | (with_reducible exact ih0 _ _ _ _)
   | (with_reducible exact ih1 _ _ _ _ _)
   | (with_reducible exact LeO.refl _)
   | (with_reducible exact LeO.none _)
   | (with_reducible refine LeO.ite ?_ ?_)
   | (with_reducible refine LeO.bind ?_ (fun _ => ?_))
   | exact ih0 _ _ _ _
   | exact ih1 _ _ _ _ _
   | exact LeO.none _
   | refine LeO.ite ?_ ?_
   | refine LeO.bind ?_ (fun _ => ?_)
set_option maxHeartbeats 8000000 in
set_option maxRecDepth 100000 in
theorem suffix_Turned.calls (k : Nat) (A0 : Option Addr) (c0 : Nat) (l0 : List Int) (r1 : List Int) (r2 : Int) (w : World) (hr0 : Kd.C (Kd.int .i64) w A0 l0.length l0) (hc0 : l0.length ≤ c0) (h : suffix_Turned.f k l0 = some (r1, r2)) :
  Calls Try.prog 14 #[.slice A0 l0.length c0] w fun e w' => ∃ v0_ : Value, e = .returned (.tuple #[v0_, .int .i64 r2]) ∧ Kd.R (Kd.int .i64) 3 w' w.heap.size (fun _ => True) v0_ r1 ∧ Below w.heap.size w w' := by
 have HR0 := Aside0.mk hr0
 have HC0 := Aside0.mk hc0
 clear hr0 hc0
 have HB := Aside0.mk (Below.refl w.heap.size w)
 have H : (if 0 ≤ (l0.length : Int) then (if ((l0.length : Int) : Int).toNat ≤ 35184372088832 then ((some (List.replicate ((l0.length : Int) : Int).toNat 0 : List Int)).bind fun y144 => (suffix_Turned.l0 k l0 y144 (y144.length : Int) 0)) else (none)) else (none)) = some (r1, r2) := h
 clear h
 by_cases c2 : 0 ≤ (l0.length : Int)
 ·rw [if_pos c2] at H
  have c2b0 := eq_true c2
  have c2b1 : decide (0 ≤ (l0.length : Int)) = true := decide_eq_true c2
  clear c2
  by_cases c3 : ((l0.length : Int) : Int).toNat ≤ 35184372088832
  ·rw [if_pos c3] at H
   have c3b0 := eq_true c3
   have c3b1 : decide (((l0.length : Int) : Int).toNat ≤ 35184372088832) = true := decide_eq_true c3
   clear c3
   obtain ⟨y144, hy144⟩ : ∃ y_ : List Int, y_ = (List.replicate ((l0.length : Int) : Int).toNat 0) := ⟨_, rfl⟩
   replace H : (suffix_Turned.l0 k l0 y144 (y144.length : Int) 0) = some (r1, r2) := by first | (rw [hy144]; with_reducible exact H) | (have H2_ := (Option.bind_some _ _).symm.trans H; rw [hy144]; with_reducible exact H2_) | (have H2_ := (Option.bind_some _ _).symm.trans H; with_reducible exact H2_) | with_reducible exact H | (rw [hy144]; exact H) | exact H
   have Ny144 := Aside0.mk hy144
   clear hy144
   have H' := Aside0.mk H
   clear H
   go_enter Try.func14, Try.ntmps14
   go_wp2_with (first | ((with_reducible refine gate_dst (N := 10) rfl ?_); (try (refine gate_guard (by rfl) ?_; dsimp only)); refine Kd.R_make (Kd.int .i64) _ 3 rfl (N := 10) rfl 22 _ _ rfl (l0.length : Int) rfl rfl Try.underlying22 (.int .i64 0) 8 info3 rfl (by decide) (by omega) 0 (ok := fun _ => True) (okp := fun _ => True) rfl (fun _ hk => hk) trivial (of_decide_eq_true (by first | (with_reducible assumption) | assumption)) (Nat.le_trans (Nat.mul_le_mul_right _ (of_decide_eq_true (by first | (with_reducible assumption) | assumption) : (l0.length : Int).toNat ≤ 35184372088832)) (by omega)) (Below.refl _ _) (Nat.le_refl _) ?_; intro v145 w4 ho5 hb hg_ hnew_; clear hg_ hnew_; (first | rw [← Ny144.out] at ho5 | (simp only [Int.reduceToNat] at ho5; rw [← Ny144.out] at ho5)); have n0_ := Aside0.mk (Kd.R_lower ho5 (below_size (by repeat (first | (with_reducible first | exact HB.out | apply below_alloc | apply pw_below_drewN | apply below_drew1) | exact HB.out)))); have n1_ := Aside0.mk (below_step (by repeat (first | (with_reducible first | exact HB.out | apply below_alloc | apply pw_below_drewN | apply below_drew1) | exact HB.out)) hb); clear HB; have HO146 := n0_; have HB := n1_; clear n0_ n1_; clear hb ho5; obtain ⟨Ao6, co6, eo6⟩ := Kd.R_slice HO146.out; subst eo6))
   go_loopg [13] k (fun kq v13 w' => ∃ (x4_1 : List Int) (x13_1 : Int), v13 = .int .i64 x13_1 ∧ Aside0 (suffix_Turned.l0 kq l0 x4_1 (y144.length : Int) x13_1 = some (r1, r2)) ∧ Aside0 (kq ≤ k) ∧ Aside0 (Kd.R (Kd.int .i64) 3 w' w.heap.size (fun _ => True) (.slice Ao6 y144.length co6) x4_1) ∧ Aside0 (Below w.heap.size w w'))
   case atStart => exact ⟨(y144), (0), (by first | rfl | (simp; done) | (simp [*]; done)), H', ⟨Nat.le_refl _⟩, ⟨by (with_reducible repeat (first | apply Kd.R_alloc | apply Kd.R_drewN | apply Kd.R_drew)); exact HO146.out⟩, ⟨by repeat (first | (with_reducible first | exact HB.out | apply below_alloc | apply pw_below_drewN | apply below_drew1) | exact HB.out)⟩⟩
   case round =>
    clear H'
    try clear c1
    try clear c2
    try clear c2b0
    try clear c2b1
    try clear p2
    try clear c3
    try clear c3b0
    try clear c3b1
    obtain ⟨x4_1, x13_1, rfl, HA, HK1, HO_4, HB⟩ := hrel
    have hl4_1 := (Kd.R_reads' HO_4.out).1
    rw [hl4_1] at HO_4
    (try simp only [hl4_1])
    cases gk with
    | zero => exact absurd HA.out (by simp [suffix_Turned.l0])
    | succ k1 =>
     have H := HA.out
     clear HA
     simp only [suffix_Turned.l0] at H
     by_cases c7 : x13_1 < (y144.length : Int)
     ·rw [if_pos c7] at H
      have c7b0 : decide (x13_1 < (y144.length : Int)) = true := decide_eq_true c7
      (try (have c7b0r := c7b0; simp only [hl4_1] at c7b0r))
      clear c7
      by_cases c8 : 0 ≤ x13_1
      ·rw [if_pos c8] at H
       have c8b0 : decide (0 ≤ x13_1) = true := decide_eq_true c8
       clear c8
       by_cases c9 : x13_1 < (x4_1.length : Int)
       ·rw [if_pos c9] at H
        have c9b0 : decide (x13_1 < (x4_1.length : Int)) = true := decide_eq_true c9
        (try (have c9b0r := c9b0; simp only [hl4_1] at c9b0r))
        clear c9
        obtain ⟨y147, hy147⟩ : ∃ y_ : List Int, y_ = (x4_1.set (x13_1 : Int).toNat (-1)) := ⟨_, rfl⟩
        replace H : (suffix_Turned.l0 k1 l0 y147 (y144.length : Int) (wrap64 (x13_1 + 1))) = some (r1, r2) := by first | (rw [hy147]; with_reducible exact H) | (have H2_ := (Option.bind_some _ _).symm.trans H; rw [hy147]; with_reducible exact H2_) | (have H2_ := (Option.bind_some _ _).symm.trans H; with_reducible exact H2_) | with_reducible exact H | (rw [hy147]; exact H) | exact H
        have Ny147 := Aside0.mk hy147
        clear hy147
        have H' := Aside0.mk H
        clear H
        have p10 : 0 ≤ (x13_1 : Int) := of_decide_eq_true (by first | (with_reducible assumption) | assumption)
        have q10 : (x13_1 : Int) < ((x4_1.length : Int) : Int) := of_decide_eq_true (by first | (with_reducible assumption) | assumption)
        obtain ⟨go10, co10, eo10, gb10, gl10, cl10, HG10⟩ := Kd.R_form HO_4.out (by omega)
        (first | cases eo10 | (injection eo10 with ea_ en_ ec_; (first | subst ea_ | (injection ea_ with ea_; subst ea_)); subst ec_; clear en_))
        have GB10 := Aside0.mk gb10
        have GG10 := Aside0.mk HG10
        clear gb10 gl10 HG10
        obtain ⟨hx10_0, hf10_0⟩ := Kd.R_celln 0 HO_4.out (x13_1 : Int) p10 q10
        replace p10 := eq_true p10
        replace q10 := eq_true q10
        have HP11 := Kd.R_putg HO_4.out (x13_1 : Int) (-1)
        go_wp2_with (first | ((with_reducible refine gate_store (t := 3) (p := 18) rfl ?_); refine store_event (t := 3) (p := 18) (v := ?vo_w12) (w1 := (wr.setCell ⟨go10, (x13_1 : Int).toNat, none⟩ (.int .i64 (-1)))) ?hg ?ho ?hn ?hr ?_; (case ho => rfl); (case hg => rfl); (case hn => rfl); (case hr => first | (go_simp; done) | (go_simp; rfl)); intro w12 hw; have hg : wr.grownBy w12 (some go10) := (by rw [hw]; exact HP11.2); have hp_ : Kd.R (Kd.int .i64) 3 w12 w.heap.size (fun _ => True) (.slice (some ⟨go10, 0, none⟩) x4_1.length co6) y147 := (by rw [hw, Ny147.out]; exact HP11.1); clear HP11; have n0_ := Aside0.mk (hp_); have n1_ := Aside0.mk ((by rw [hw]; exact below_set (HB.out) GB10.out : Below w.heap.size w w12)); clear HO_4; clear HB; have HO_4 := n0_; have HB := n1_; clear n0_ n1_; clear hg hw hp_))
        (try simp only [← hl4_1])
        go_roundg k1
        case measure => have := HK1.out; omega
        case rel => exact ⟨(y147), (wrap64 (x13_1 + 1)), (by first | rfl | (simp; done) | (simp [*]; done)), H', ⟨by have := HK1.out; omega⟩, ⟨by (try simp only [hl4_1]); (with_reducible repeat (first | apply Kd.R_alloc | apply Kd.R_drewN | apply Kd.R_drew)); exact HO_4.out⟩, ⟨by repeat (first | (with_reducible first | exact HB.out | apply below_alloc | apply pw_below_drewN | apply below_drew1) | exact HB.out)⟩⟩
       ·rw [if_neg c9] at H
        exact absurd H (by simp)
      ·rw [if_neg c8] at H
       exact absurd H (by simp)
     ·rw [if_neg c7] at H
      have c7b0 : decide (x13_1 < (y144.length : Int)) = false := decide_eq_false c7
      (try (have c7b0r := c7b0; simp only [hl4_1] at c7b0r))
      clear c7
      have H' := Aside0.mk H
      clear H
      go_wp2
      go_loopg [22] k1 (fun kq v22 w' => ∃ (x4_2 : List Int) (x22_2 : Int), v22 = .int .i64 x22_2 ∧ Aside0 (suffix_Turned.l1 kq l0 x4_2 l0 (l0.length : Int) x22_2 = some (r1, r2)) ∧ Aside0 (kq ≤ k1) ∧ Aside0 (Kd.R (Kd.int .i64) 3 w' w.heap.size (fun _ => True) (.slice Ao6 x4_1.length co6) x4_2) ∧ Aside0 (Below w.heap.size w w'))
      case atStart => exact ⟨(x4_1), (0), (by first | rfl | (simp; done) | (simp [*]; done)), H', ⟨Nat.le_refl _⟩, ⟨by (try simp only [hl4_1]); (with_reducible repeat (first | apply Kd.R_alloc | apply Kd.R_drewN | apply Kd.R_drew)); exact HO_4.out⟩, ⟨by repeat (first | (with_reducible first | exact HB.out | apply below_alloc | apply pw_below_drewN | apply below_drew1) | exact HB.out)⟩⟩
      case round =>
       clear H'
       try clear c1
       try clear p1
       try clear q1
       try clear hx1
       try clear hf1
       try clear c2
       try clear c2b0
       try clear c2b1
       try clear p2
       try clear c3
       try clear c3b0
       try clear c3b1
       try clear p6
       try clear c7
       try clear c7b0
       try clear c8
       try clear c8b0
       try clear c9
       try clear c9b0
       try clear p10
       try clear q10
       try clear hx10
       try clear hf10
       try clear hx10_0
       try clear p10
       try clear p2
       try clear q10
       obtain ⟨x4_2, x22_2, rfl, HA, HK2, HO_4, HB⟩ := hrel
       have hl4_2 := (Kd.R_reads' HO_4.out).1
       rw [hl4_2] at HO_4
       (try simp only [hl4_2])
       cases gk with
       | zero => exact absurd HA.out (by simp [suffix_Turned.l1])
       | succ k2 =>
        have H := HA.out
        clear HA
        simp only [suffix_Turned.l1] at H
        by_cases c13 : x22_2 < (l0.length : Int)
        ·rw [if_pos c13] at H
         have c13b0 : decide (x22_2 < (l0.length : Int)) = true := decide_eq_true c13
         (try (have c13b0r := c13b0; simp only [hl4_1, hl4_2] at c13b0r))
         clear c13
         by_cases c14 : 0 ≤ x22_2
         ·rw [if_pos c14] at H
          have c14b0 : decide (0 ≤ x22_2) = true := decide_eq_true c14
          clear c14
          by_cases c15 : x22_2 < (l0.length : Int)
          ·rw [if_pos c15] at H
           have c15b0 : decide (x22_2 < (l0.length : Int)) = true := decide_eq_true c15
           (try (have c15b0r := c15b0; simp only [hl4_1, hl4_2] at c15b0r))
           clear c15
           by_cases c16 : (rd l0 x22_2) < 0
           ·rw [if_pos c16] at H
            have c16b0 : decide ((rd l0 x22_2) < 0) = true := decide_eq_true c16
            clear c16
            simp only [Option.some.injEq, Prod.mk.injEq] at H
            obtain ⟨rfl, rfl⟩ := H
            have p148 : 0 ≤ (x22_2 : Int) := of_decide_eq_true (by first | (with_reducible assumption) | assumption)
            have q148 : x22_2 < (l0.length : Int) := of_decide_eq_true (by first | (with_reducible assumption) | assumption)
            obtain ⟨ad148, e148, hx148_0⟩ := Kd.at_int HR0.out x22_2 p148 q148
            cases e148
            replace hx148_0 := (HB.out.cell (World.block_lt_of_cell? w _ hx148_0)).trans hx148_0
            replace p148 := eq_true p148
            replace q148 := eq_true q148
            go_wp2
            go_ret2
            exact ⟨_, by first | rfl | (simp [errW_none, errW_some] <;> rfl) | (simp [*, errW_none, errW_some] <;> rfl), by first | exact Kd.R_nil _ _ _ _ _ | exact Kd.N_nil _ _ _ _ _ | exact Kd.V_nil _ _ _ _ _ | exact Kd.Q_nil _ _ _ _ _ | exact Kd.S_nil _ _ _ _ _, by repeat (first | (with_reducible first | exact HB.out | apply below_alloc | apply pw_below_drewN | apply below_drew1) | exact HB.out)⟩
           ·rw [if_neg c16] at H
            have c16b0 : decide ((rd l0 x22_2) < 0) = false := decide_eq_false c16
            clear c16
            by_cases c17 : (rd l0 x22_2) ≥ (l0.length : Int)
            ·rw [if_pos c17] at H
             have c17b0 : decide ((l0.length : Int) ≤ (rd l0 x22_2)) = true := decide_eq_true c17
             (try (have c17b0r := c17b0; simp only [hl4_1, hl4_2] at c17b0r))
             clear c17
             simp only [Option.some.injEq, Prod.mk.injEq] at H
             obtain ⟨rfl, rfl⟩ := H
             have p148 : 0 ≤ (x22_2 : Int) := of_decide_eq_true (by first | (with_reducible assumption) | assumption)
             have q148 : x22_2 < (l0.length : Int) := of_decide_eq_true (by first | (with_reducible assumption) | assumption)
             obtain ⟨ad148, e148, hx148_0⟩ := Kd.at_int HR0.out x22_2 p148 q148
             cases e148
             replace hx148_0 := (HB.out.cell (World.block_lt_of_cell? w _ hx148_0)).trans hx148_0
             replace p148 := eq_true p148
             replace q148 := eq_true q148
             go_wp2
             go_ret2
             exact ⟨_, by first | rfl | (simp [errW_none, errW_some] <;> rfl) | (simp [*, errW_none, errW_some] <;> rfl), by first | exact Kd.R_nil _ _ _ _ _ | exact Kd.N_nil _ _ _ _ _ | exact Kd.V_nil _ _ _ _ _ | exact Kd.Q_nil _ _ _ _ _ | exact Kd.S_nil _ _ _ _ _, by repeat (first | (with_reducible first | exact HB.out | apply below_alloc | apply pw_below_drewN | apply below_drew1) | exact HB.out)⟩
            ·rw [if_neg c17] at H
             have c17b0 : decide ((l0.length : Int) ≤ (rd l0 x22_2)) = false := decide_eq_false c17
             (try (have c17b0r := c17b0; simp only [hl4_1, hl4_2] at c17b0r))
             clear c17
             by_cases c18 : 0 ≤ (rd l0 x22_2)
             ·rw [if_pos c18] at H
              have c18b0 : decide (0 ≤ (rd l0 x22_2)) = true := decide_eq_true c18
              clear c18
              by_cases c19 : (rd l0 x22_2) < (x4_2.length : Int)
              ·rw [if_pos c19] at H
               have c19b0 : decide ((rd l0 x22_2) < (x4_2.length : Int)) = true := decide_eq_true c19
               (try (have c19b0r := c19b0; simp only [hl4_1, hl4_2] at c19b0r))
               clear c19
               by_cases c20 : (rd x4_2 (rd l0 x22_2)) ≥ 0
               ·rw [if_pos c20] at H
                have c20b0 : decide (0 ≤ (rd x4_2 (rd l0 x22_2))) = true := decide_eq_true c20
                clear c20
                simp only [Option.some.injEq, Prod.mk.injEq] at H
                obtain ⟨rfl, rfl⟩ := H
                have p148 : 0 ≤ (x22_2 : Int) := of_decide_eq_true (by first | (with_reducible assumption) | assumption)
                have q148 : x22_2 < (l0.length : Int) := of_decide_eq_true (by first | (with_reducible assumption) | assumption)
                obtain ⟨ad148, e148, hx148_0⟩ := Kd.at_int HR0.out x22_2 p148 q148
                cases e148
                replace hx148_0 := (HB.out.cell (World.block_lt_of_cell? w _ hx148_0)).trans hx148_0
                replace p148 := eq_true p148
                replace q148 := eq_true q148
                have p149 : 0 ≤ ((rd l0 x22_2) : Int) := of_decide_eq_true (by first | (with_reducible assumption) | assumption)
                have q149 : (rd l0 x22_2) < (x4_2.length : Int) := of_decide_eq_true (by first | (with_reducible assumption) | assumption)
                obtain ⟨ad149, e149, hx149_0⟩ := Kd.at_int (Kd.R_reads' HO_4.out).2.2 (rd l0 x22_2) p149 q149
                cases e149
                replace p149 := eq_true p149
                replace q149 := eq_true q149
                go_wp2
                go_ret2
                exact ⟨_, by first | rfl | (simp [errW_none, errW_some] <;> rfl) | (simp [*, errW_none, errW_some] <;> rfl), by first | exact Kd.R_nil _ _ _ _ _ | exact Kd.N_nil _ _ _ _ _ | exact Kd.V_nil _ _ _ _ _ | exact Kd.Q_nil _ _ _ _ _ | exact Kd.S_nil _ _ _ _ _, by repeat (first | (with_reducible first | exact HB.out | apply below_alloc | apply pw_below_drewN | apply below_drew1) | exact HB.out)⟩
               ·rw [if_neg c20] at H
                have c20b0 : decide (0 ≤ (rd x4_2 (rd l0 x22_2))) = false := decide_eq_false c20
                clear c20
                obtain ⟨y150, hy150⟩ : ∃ y_ : List Int, y_ = (x4_2.set ((rd l0 x22_2) : Int).toNat x22_2) := ⟨_, rfl⟩
                replace H : (suffix_Turned.l1 k2 l0 y150 l0 (l0.length : Int) (wrap64 (x22_2 + 1))) = some (r1, r2) := by first | (rw [hy150]; with_reducible exact H) | (have H2_ := (Option.bind_some _ _).symm.trans H; rw [hy150]; with_reducible exact H2_) | (have H2_ := (Option.bind_some _ _).symm.trans H; with_reducible exact H2_) | with_reducible exact H | (rw [hy150]; exact H) | exact H
                have Ny150 := Aside0.mk hy150
                clear hy150
                have H' := Aside0.mk H
                clear H
                have p148 : 0 ≤ (x22_2 : Int) := of_decide_eq_true (by first | (with_reducible assumption) | assumption)
                have q148 : x22_2 < (l0.length : Int) := of_decide_eq_true (by first | (with_reducible assumption) | assumption)
                obtain ⟨ad148, e148, hx148_0⟩ := Kd.at_int HR0.out x22_2 p148 q148
                cases e148
                replace hx148_0 := (HB.out.cell (World.block_lt_of_cell? w _ hx148_0)).trans hx148_0
                replace p148 := eq_true p148
                replace q148 := eq_true q148
                have p149 : 0 ≤ ((rd l0 x22_2) : Int) := of_decide_eq_true (by first | (with_reducible assumption) | assumption)
                have q149 : (rd l0 x22_2) < (x4_2.length : Int) := of_decide_eq_true (by first | (with_reducible assumption) | assumption)
                obtain ⟨ad149, e149, hx149_0⟩ := Kd.at_int (Kd.R_reads' HO_4.out).2.2 (rd l0 x22_2) p149 q149
                cases e149
                replace p149 := eq_true p149
                replace q149 := eq_true q149
                have p21 : 0 ≤ ((rd l0 x22_2) : Int) := of_decide_eq_true (by first | (with_reducible assumption) | assumption)
                have q21 : ((rd l0 x22_2) : Int) < ((x4_2.length : Int) : Int) := of_decide_eq_true (by first | (with_reducible assumption) | assumption)
                obtain ⟨go21, co21, eo21, gb21, gl21, cl21, HG21⟩ := Kd.R_form HO_4.out (by omega)
                (first | cases eo21 | (injection eo21 with ea_ en_ ec_; (first | subst ea_ | (injection ea_ with ea_; subst ea_)); subst ec_; clear en_))
                have GB21 := Aside0.mk gb21
                have GG21 := Aside0.mk HG21
                clear gb21 gl21 HG21
                (first | simp only [add_plain] at hx149_0 | skip)
                obtain ⟨hx21_0, hf21_0⟩ := Kd.R_celln 0 HO_4.out ((rd l0 x22_2) : Int) p21 q21
                replace p21 := eq_true p21
                replace q21 := eq_true q21
                have HP22 := Kd.R_putg HO_4.out ((rd l0 x22_2) : Int) x22_2
                go_wp2_with (first | ((with_reducible refine gate_store (t := 3) (p := 45) rfl ?_); refine store_event (t := 3) (p := 45) (v := ?vo_w23) (w1 := (wr.setCell ⟨go21, ((rd l0 x22_2) : Int).toNat, none⟩ (.int .i64 x22_2))) ?hg ?ho ?hn ?hr ?_; (case ho => rfl); (case hg => rfl); (case hn => rfl); (case hr => first | (go_simp; done) | (go_simp; rfl)); intro w23 hw; have hg : wr.grownBy w23 (some go21) := (by rw [hw]; exact HP22.2); have hp_ : Kd.R (Kd.int .i64) 3 w23 w.heap.size (fun _ => True) (.slice (some ⟨go21, 0, none⟩) x4_2.length co6) y150 := (by rw [hw, Ny150.out]; exact HP22.1); clear HP22; have n0_ := Aside0.mk (hp_); have n1_ := Aside0.mk ((by rw [hw]; exact below_set (HB.out) GB21.out : Below w.heap.size w w23)); clear HO_4; clear HB; have HO_4 := n0_; have HB := n1_; clear n0_ n1_; clear hg hw hp_))
                (try simp only [← hl4_2])
                go_roundg k2
                case measure => have := HK1.out; have := HK2.out; omega
                case rel => exact ⟨(y150), (wrap64 (x22_2 + 1)), (by first | rfl | (simp; done) | (simp [*]; done)), H', ⟨by have := HK1.out; have := HK2.out; omega⟩, ⟨by (try simp only [hl4_1]); (try simp only [hl4_2]); (with_reducible repeat (first | apply Kd.R_alloc | apply Kd.R_drewN | apply Kd.R_drew)); exact HO_4.out⟩, ⟨by repeat (first | (with_reducible first | exact HB.out | apply below_alloc | apply pw_below_drewN | apply below_drew1) | exact HB.out)⟩⟩
              ·rw [if_neg c19] at H
               exact absurd H (by simp)
             ·rw [if_neg c18] at H
              exact absurd H (by simp)
          ·rw [if_neg c15] at H
           exact absurd H (by simp)
         ·rw [if_neg c14] at H
          exact absurd H (by simp)
        ·rw [if_neg c13] at H
         have c13b0 : decide (x22_2 < (l0.length : Int)) = false := decide_eq_false c13
         (try (have c13b0r := c13b0; simp only [hl4_1, hl4_2] at c13b0r))
         clear c13
         simp only [Option.some.injEq, Prod.mk.injEq] at H
         obtain ⟨rfl, rfl⟩ := H
         go_wp2
         go_ret2
         exact ⟨_, by first | rfl | (simp [errW_none, errW_some] <;> rfl) | (simp [*, errW_none, errW_some] <;> rfl), by (with_reducible repeat (first | apply Kd.R_alloc | apply Kd.R_drewN | apply Kd.R_drew)); exact HO_4.out, by repeat (first | (with_reducible first | exact HB.out | apply below_alloc | apply pw_below_drewN | apply below_drew1) | exact HB.out)⟩
  ·rw [if_neg c3] at H
   exact absurd H (by simp)
 ·rw [if_neg c2] at H
  exact absurd H (by simp)

/-! ### induce_named: function 65 (by hand) -/
def induce_named.ok (l0 l1 q : List Int) (e : Int) : Prop := CodesP l0 ∧ inKs .i64 l1 = true ∧ l1.length ≤ 65536 ∧ e = 0 ∧ q.Pairwise (· < ·) ∧ (∀ z ∈ q, 0 ≤ z ∧ z < (l0.length : Int)) ∧ q.length ≤ 65536
instance (l0 l1 q : List Int) (e : Int) : Decidable (induce_named.ok l0 l1 q e) := by unfold induce_named.ok; infer_instance
def induce_named.f (k : Nat) (l0 l1 : List Int) : Option (List Int × Int) := (suffix_Firsts.f k l0).bind fun q => if induce_named.ok l0 l1 q.1 q.2 then some ((q.1.map Int.toNat).map fun (i : Nat) => ((nmAll l0 (q.1.map Int.toNat) l1).nm (i : Int)).getD 0, ((nmAll l0 (q.1.map Int.toNat) l1).n : Int)) else none
theorem induce_named.mono : ∀ a0 a1 k, LeO (induce_named.f k a0 a1) (induce_named.f (k + 1) a0 a1) := by
 intro a0 a1 k r h
 unfold induce_named.f at h ⊢
 obtain ⟨q, hq, h⟩ := Option.bind_eq_some_iff.1 h
 rw [suffix_Firsts.mono _ _ _ hq, Option.bind_some]
 exact h
theorem induce_named.calls (k : Nat) (A0 : Option Addr) (c0 : Nat) (l0 : List Int) (A1 : Option Addr) (c1 : Nat) (l1 : List Int) (r1 : List Int) (r2 : Int) (w : World) (hr0 : Kd.C (Kd.int .i64) w A0 l0.length l0) (hc0 : l0.length ≤ c0) (hr1 : Kd.C (Kd.int .i64) w A1 l1.length l1) (hc1 : l1.length ≤ c1) (h : induce_named.f k l0 l1 = some (r1, r2)) :
  Calls Try.prog 65 #[.slice A0 l0.length c0, .slice A1 l1.length c1] w fun e w' => ∃ v0_ : Value, e = .returned (.tuple #[v0_, .int .i64 r2]) ∧ Kd.R (Kd.int .i64) 3 w' w.heap.size (fun _ => True) v0_ r1 ∧ Below w.heap.size w w' := by
 unfold induce_named.f at h
 obtain ⟨⟨q, e⟩, hq, h⟩ := Option.bind_eq_some_iff.1 h
 by_cases hp : induce_named.ok l0 l1 q e
 ·rw [if_pos hp] at h
  cases h
  obtain ⟨p1, p2, p3, rfl, p5, p6, p7⟩ := hp
  have hrd := rd_of_kdc hr0 hc0 p1.codes.wf
  have hrd1 := rd_of_kdc hr1 hc1 (inKs_of p2)
  obtain ⟨b, o, rfl⟩ := hrd.plain p1.codes.pos
  have hqn := natI p6
  have hlen : (q.map Int.toNat).length = q.length := by simp
  refine (indNamed_calls b o c0 l0 A1 c1 l1 w hrd hrd1 p1.2.1 p3 (q.map Int.toNat) (Lib.hid (natI_lt p5 p6)) (Lib.hid (natI_in p6)) (by rw [hlen]; exact p7) fun w' hu => Lib.hid ?_).mono fun en w' hh => ?_
  ·rw [← hqn]
   exact (suffix_Firsts.calls k _ c0 l0 q 0 w' (kd_of_rd (hrd.up hu)) hc0 hq).mono fun _ _ ⟨v, he, hv, hb⟩ => ⟨v, he, own_of_kd hv fun z hz => InK.of_i64 (by have := p6 z hz; omega) (by have := p6 z hz; have := p1.2.1; omega), ⟨hb⟩⟩
  ·obtain ⟨v, he, hv, hu⟩ := hh.out
   exact ⟨v, he, kd_of_own hv fun _ _ => trivial, hu.out⟩
 ·rw [if_neg hp] at h; cases h


/-! ### induce_Names: function 42 -/
def induce_Names.f (k : Nat) (l0 : List Int) (l1 : List Int) : Option (List Int × Int × Int) := (suffix_Check.f k l0).bind fun t151 => (if t151 = 0 then ((suffix_Turned.f k l1).bind fun bt152 => (if bt152.2 = 0 then (if (l1.length : Int) = (l0.length : Int) then ((induce_named.f k l0 l1).bind fun bt156 => (some (bt156.1, bt156.2, 0))) else (some (([] : List Int), 0, 3))) else (some (([] : List Int), 0, 3)))) else (some (([] : List Int), 0, t151)))
theorem induce_Names.mono : ∀ a0 a1 k, LeO (induce_Names.f k a0 a1) (induce_Names.f (k + 1) a0 a1) := by
 intro a0 a1 k
 unfold induce_Names.f
 repeat' first
   | (with_reducible exact induce_named.mono _ _ _)
   | (with_reducible exact suffix_Check.mono _ _)
   | (with_reducible exact suffix_Turned.mono _ _)
   | (with_reducible exact LeO.refl _)
   | (with_reducible exact LeO.none _)
   | (with_reducible refine LeO.ite ?_ ?_)
   | (with_reducible refine LeO.bind ?_ (fun _ => ?_))
   | exact induce_named.mono _ _ _
   | exact suffix_Check.mono _ _
   | exact suffix_Turned.mono _ _
   | exact LeO.none _
   | refine LeO.ite ?_ ?_
   | refine LeO.bind ?_ (fun _ => ?_)
set_option maxHeartbeats 8000000 in
set_option maxRecDepth 100000 in
theorem induce_Names.calls (k : Nat) (A0 : Option Addr) (c0 : Nat) (l0 : List Int) (A1 : Option Addr) (c1 : Nat) (l1 : List Int) (r1 : List Int) (r2 : Int) (r3 : Int) (w : World) (hr0 : Kd.C (Kd.int .i64) w A0 l0.length l0) (hc0 : l0.length ≤ c0) (hr1 : Kd.C (Kd.int .i64) w A1 l1.length l1) (hc1 : l1.length ≤ c1) (h : induce_Names.f k l0 l1 = some (r1, r2, r3)) :
  Calls Try.prog 42 #[.slice A0 l0.length c0, .slice A1 l1.length c1] w fun e w' => ∃ v0_ : Value, e = .returned (.tuple #[v0_, .int .i64 r2, .int .i64 r3]) ∧ Kd.R (Kd.int .i64) 3 w' w.heap.size (fun _ => True) v0_ r1 ∧ Below w.heap.size w w' := by
 have HR0 := Aside0.mk hr0
 have HC0 := Aside0.mk hc0
 clear hr0 hc0
 have HR1 := Aside0.mk hr1
 have HC1 := Aside0.mk hc1
 clear hr1 hc1
 have HB := Aside0.mk (Below.refl w.heap.size w)
 have H : ((suffix_Check.f k l0).bind fun t151 => (if t151 = 0 then ((suffix_Turned.f k l1).bind fun bt152 => (if bt152.2 = 0 then (if (l1.length : Int) = (l0.length : Int) then ((induce_named.f k l0 l1).bind fun bt156 => (some (bt156.1, bt156.2, 0))) else (some (([] : List Int), 0, 3))) else (some (([] : List Int), 0, 3)))) else (some (([] : List Int), 0, t151)))) = some (r1, r2, r3) := h
 clear h
 replace H := Option.bind_eq_some_iff.mp H
 obtain ⟨t151, A30, H⟩ := H
 replace H : (if t151 = 0 then ((suffix_Turned.f k l1).bind fun bt152 => (if bt152.2 = 0 then (if (l1.length : Int) = (l0.length : Int) then ((induce_named.f k l0 l1).bind fun bt156 => (some (bt156.1, bt156.2, 0))) else (some (([] : List Int), 0, 3))) else (some (([] : List Int), 0, 3)))) else (some (([] : List Int), 0, t151))) = some (r1, r2, r3) := H
 have A3 := Aside0.mk A30
 clear A30
 by_cases c4 : t151 = 0
 ·rw [if_pos c4] at H
  have c4b0 : (t151 == 0) = true := beq_iff_eq.mpr c4
  have c4b1 : (t151 != 0) = false := bne_eq_false_iff_eq.mpr c4
  clear c4
  replace H := Option.bind_eq_some_iff.mp H
  obtain ⟨⟨t152, t153⟩, A50, H⟩ := H
  replace H : (if t153 = 0 then (if (l1.length : Int) = (l0.length : Int) then ((induce_named.f k l0 l1).bind fun bt156 => (some (bt156.1, bt156.2, 0))) else (some (([] : List Int), 0, 3))) else (some (([] : List Int), 0, 3))) = some (r1, r2, r3) := H
  have A5 := Aside0.mk A50
  clear A50
  by_cases c6 : t153 = 0
  ·rw [if_pos c6] at H
   have c6b0 : (t153 == 0) = true := beq_iff_eq.mpr c6
   have c6b1 : (t153 != 0) = false := bne_eq_false_iff_eq.mpr c6
   clear c6
   by_cases c7 : (l1.length : Int) = (l0.length : Int)
   ·rw [if_pos c7] at H
    have c7b0 : ((l1.length : Int) == (l0.length : Int)) = true := beq_iff_eq.mpr c7
    have c7b1 : ((l1.length : Int) != (l0.length : Int)) = false := bne_eq_false_iff_eq.mpr c7
    have c7b2 : (l1.length == l0.length) = true := by first | simpa using c7 | (simp at c7 ⊢; omega)
    clear c7
    replace H := Option.bind_eq_some_iff.mp H
    obtain ⟨⟨t156, t157⟩, A80, H⟩ := H
    replace H : (some (t156, t157, 0)) = some (r1, r2, r3) := H
    have A8 := Aside0.mk A80
    clear A80
    simp only [Option.some.injEq, Prod.mk.injEq] at H
    obtain ⟨rfl, rfl, rfl⟩ := H
    go_enter Try.func42, Try.ntmps42
    go_wp2_with (first | ((with_reducible refine gate_callee (f := 33) rfl ?_); refine goesL_ (some 13) rfl rfl Try.func33 (by kernel_rfl) rfl #[.slice A0 l0.length c0] rfl (by (try simp only [List.map_toArray, List.map_cons, List.map_nil]); first | done | rfl | (simp only [List.length_drop, List.length_take]; rfl)) ?_; (with_reducible refine (suffix_Check.calls k _ _ l0 t151 _ ?side1 ?side2 A3.out).mono ?_); (case side1 => repeat (first | exact HR0.out | (with_reducible refine Kd.C_alloc ?_ _) | (with_reducible refine Kd.C_drewN ?_ _) | (with_reducible refine Kd.C_drew ?_))); (case side2 => exact HC0.out); rintro e w' ⟨rfl, ⟨nd, rfl⟩⟩; refine ⟨_, rfl, ?_⟩) | ((with_reducible refine gate_callee (f := 14) rfl ?_); refine goesL_ (some 19) rfl rfl Try.func14 (by kernel_rfl) rfl #[.slice A1 l1.length c1] rfl (by (try simp only [List.map_toArray, List.map_cons, List.map_nil]); first | done | rfl | (simp only [List.length_drop, List.length_take]; rfl)) ?_; (with_reducible refine (suffix_Turned.calls k _ _ l1 t152 t153 _ ?side1 ?side2 A5.out).mono ?_); (case side1 => repeat (first | exact HR1.out | (with_reducible refine Kd.C_alloc ?_ _) | (with_reducible refine Kd.C_drewN ?_ _) | (with_reducible refine Kd.C_drew ?_))); (case side2 => exact HC1.out); rintro e w9 ⟨v154, rfl, ho0, hb⟩; refine ⟨_, rfl, ?_⟩; have n0_ := Aside0.mk (Kd.R_lower ho0 (below_size (by repeat (first | (with_reducible first | exact HB.out | apply below_alloc | apply pw_below_drewN | apply below_drew1) | exact HB.out)))); have n1_ := Aside0.mk (below_step (by repeat (first | (with_reducible first | exact HB.out | apply below_alloc | apply pw_below_drewN | apply below_drew1) | exact HB.out)) hb); clear HB; have HO155 := n0_; have HB := n1_; clear n0_ n1_; (try clear hb); (try clear hb2); (try clear hk); (try clear hi); (try clear ho0)) | ((with_reducible refine gate_callee (f := 65) rfl ?_); refine goesL_ (some 34) rfl rfl Try.func65 (by kernel_rfl) rfl #[.slice A0 l0.length c0, .slice A1 l1.length c1] rfl (by (try simp only [List.map_toArray, List.map_cons, List.map_nil]); first | done | rfl | (simp only [List.length_drop, List.length_take]; rfl)) ?_; (with_reducible refine (induce_named.calls k _ _ l0 _ _ l1 t156 t157 _ ?side1 ?side2 ?side3 ?side4 A8.out).mono ?_); (case side1 => repeat (first | exact (Kd.C_below HR0.out HB.out) | (with_reducible refine Kd.C_alloc ?_ _) | (with_reducible refine Kd.C_drewN ?_ _) | (with_reducible refine Kd.C_drew ?_))); (case side2 => exact HC0.out); (case side3 => repeat (first | exact (Kd.C_below HR1.out HB.out) | (with_reducible refine Kd.C_alloc ?_ _) | (with_reducible refine Kd.C_drewN ?_ _) | (with_reducible refine Kd.C_drew ?_))); (case side4 => exact HC1.out); rintro e w10 ⟨v158, rfl, ho0, hb⟩; refine ⟨_, rfl, ?_⟩; have n0_ := Aside0.mk (Kd.R_elder' (by (with_reducible repeat (first | apply Kd.R_alloc | apply Kd.R_drewN | apply Kd.R_drew)); exact HO155.out) (Kd.R_base ho0) hb); have n1_ := Aside0.mk (Kd.R_lower (Kd.R_new' ho0 (Kd.R_lt (by (with_reducible repeat (first | apply Kd.R_alloc | apply Kd.R_drewN | apply Kd.R_drew)); exact HO155.out))) (below_size (by repeat (first | (with_reducible first | exact HB.out | apply below_alloc | apply pw_below_drewN | apply below_drew1) | exact HB.out)))); have n2_ := Aside0.mk (below_step (by repeat (first | (with_reducible first | exact HB.out | apply below_alloc | apply pw_below_drewN | apply below_drew1) | exact HB.out)) hb); clear HO155; clear HB; have HO155 := n0_; have HO159 := n1_; have HB := n2_; clear n0_ n1_ n2_; (try clear hb); (try clear hb2); (try clear hk); (try clear hi); (try clear ho0)))
    go_ret3
    exact ⟨_, by first | rfl | (simp [errW_none, errW_some] <;> rfl) | (simp [*, errW_none, errW_some] <;> rfl), by (with_reducible repeat (first | apply Kd.R_alloc | apply Kd.R_drewN | apply Kd.R_drew)); exact Kd.R_mono HO159.out (fun _ hk => trivial), by repeat (first | (with_reducible first | exact HB.out | apply below_alloc | apply pw_below_drewN | apply below_drew1) | exact HB.out)⟩
   ·rw [if_neg c7] at H
    have c7b0 : ((l1.length : Int) == (l0.length : Int)) = false := beq_eq_false_iff_ne.mpr c7
    have c7b1 : ((l1.length : Int) != (l0.length : Int)) = true := bne_iff_ne.mpr c7
    have c7b2 : (l1.length == l0.length) = false := by first | simpa using c7 | (simp at c7 ⊢; omega)
    simp only [Option.some.injEq, Prod.mk.injEq] at H
    obtain ⟨rfl, rfl, rfl⟩ := H
    go_enter Try.func42, Try.ntmps42
    go_wp2_with (first | ((with_reducible refine gate_callee (f := 33) rfl ?_); refine goesL_ (some 13) rfl rfl Try.func33 (by kernel_rfl) rfl #[.slice A0 l0.length c0] rfl (by (try simp only [List.map_toArray, List.map_cons, List.map_nil]); first | done | rfl | (simp only [List.length_drop, List.length_take]; rfl)) ?_; (with_reducible refine (suffix_Check.calls k _ _ l0 t151 _ ?side1 ?side2 A3.out).mono ?_); (case side1 => repeat (first | exact HR0.out | (with_reducible refine Kd.C_alloc ?_ _) | (with_reducible refine Kd.C_drewN ?_ _) | (with_reducible refine Kd.C_drew ?_))); (case side2 => exact HC0.out); rintro e w' ⟨rfl, ⟨nd, rfl⟩⟩; refine ⟨_, rfl, ?_⟩) | ((with_reducible refine gate_callee (f := 14) rfl ?_); refine goesL_ (some 19) rfl rfl Try.func14 (by kernel_rfl) rfl #[.slice A1 l1.length c1] rfl (by (try simp only [List.map_toArray, List.map_cons, List.map_nil]); first | done | rfl | (simp only [List.length_drop, List.length_take]; rfl)) ?_; (with_reducible refine (suffix_Turned.calls k _ _ l1 t152 t153 _ ?side1 ?side2 A5.out).mono ?_); (case side1 => repeat (first | exact HR1.out | (with_reducible refine Kd.C_alloc ?_ _) | (with_reducible refine Kd.C_drewN ?_ _) | (with_reducible refine Kd.C_drew ?_))); (case side2 => exact HC1.out); rintro e w11 ⟨v154, rfl, ho0, hb⟩; refine ⟨_, rfl, ?_⟩; have n0_ := Aside0.mk (Kd.R_lower ho0 (below_size (by repeat (first | (with_reducible first | exact HB.out | apply below_alloc | apply pw_below_drewN | apply below_drew1) | exact HB.out)))); have n1_ := Aside0.mk (below_step (by repeat (first | (with_reducible first | exact HB.out | apply below_alloc | apply pw_below_drewN | apply below_drew1) | exact HB.out)) hb); clear HB; have HO155 := n0_; have HB := n1_; clear n0_ n1_; (try clear hb); (try clear hb2); (try clear hk); (try clear hi); (try clear ho0)))
    go_ret3
    exact ⟨_, by first | rfl | (simp [errW_none, errW_some] <;> rfl) | (simp [*, errW_none, errW_some] <;> rfl), by first | exact Kd.R_nil _ _ _ _ _ | exact Kd.N_nil _ _ _ _ _ | exact Kd.V_nil _ _ _ _ _ | exact Kd.Q_nil _ _ _ _ _ | exact Kd.S_nil _ _ _ _ _, by repeat (first | (with_reducible first | exact HB.out | apply below_alloc | apply pw_below_drewN | apply below_drew1) | exact HB.out)⟩
  ·rw [if_neg c6] at H
   have c6b0 : (t153 == 0) = false := beq_eq_false_iff_ne.mpr c6
   have c6b1 : (t153 != 0) = true := bne_iff_ne.mpr c6
   simp only [Option.some.injEq, Prod.mk.injEq] at H
   obtain ⟨rfl, rfl, rfl⟩ := H
   go_enter Try.func42, Try.ntmps42
   go_wp2_with (first | ((with_reducible refine gate_callee (f := 33) rfl ?_); refine goesL_ (some 13) rfl rfl Try.func33 (by kernel_rfl) rfl #[.slice A0 l0.length c0] rfl (by (try simp only [List.map_toArray, List.map_cons, List.map_nil]); first | done | rfl | (simp only [List.length_drop, List.length_take]; rfl)) ?_; (with_reducible refine (suffix_Check.calls k _ _ l0 t151 _ ?side1 ?side2 A3.out).mono ?_); (case side1 => repeat (first | exact HR0.out | (with_reducible refine Kd.C_alloc ?_ _) | (with_reducible refine Kd.C_drewN ?_ _) | (with_reducible refine Kd.C_drew ?_))); (case side2 => exact HC0.out); rintro e w' ⟨rfl, ⟨nd, rfl⟩⟩; refine ⟨_, rfl, ?_⟩) | ((with_reducible refine gate_callee (f := 14) rfl ?_); refine goesL_ (some 19) rfl rfl Try.func14 (by kernel_rfl) rfl #[.slice A1 l1.length c1] rfl (by (try simp only [List.map_toArray, List.map_cons, List.map_nil]); first | done | rfl | (simp only [List.length_drop, List.length_take]; rfl)) ?_; (with_reducible refine (suffix_Turned.calls k _ _ l1 t152 t153 _ ?side1 ?side2 A5.out).mono ?_); (case side1 => repeat (first | exact HR1.out | (with_reducible refine Kd.C_alloc ?_ _) | (with_reducible refine Kd.C_drewN ?_ _) | (with_reducible refine Kd.C_drew ?_))); (case side2 => exact HC1.out); rintro e w12 ⟨v154, rfl, ho0, hb⟩; refine ⟨_, rfl, ?_⟩; have n0_ := Aside0.mk (Kd.R_lower ho0 (below_size (by repeat (first | (with_reducible first | exact HB.out | apply below_alloc | apply pw_below_drewN | apply below_drew1) | exact HB.out)))); have n1_ := Aside0.mk (below_step (by repeat (first | (with_reducible first | exact HB.out | apply below_alloc | apply pw_below_drewN | apply below_drew1) | exact HB.out)) hb); clear HB; have HO155 := n0_; have HB := n1_; clear n0_ n1_; (try clear hb); (try clear hb2); (try clear hk); (try clear hi); (try clear ho0)))
   go_ret3
   exact ⟨_, by first | rfl | (simp [errW_none, errW_some] <;> rfl) | (simp [*, errW_none, errW_some] <;> rfl), by first | exact Kd.R_nil _ _ _ _ _ | exact Kd.N_nil _ _ _ _ _ | exact Kd.V_nil _ _ _ _ _ | exact Kd.Q_nil _ _ _ _ _ | exact Kd.S_nil _ _ _ _ _, by repeat (first | (with_reducible first | exact HB.out | apply below_alloc | apply pw_below_drewN | apply below_drew1) | exact HB.out)⟩
 ·rw [if_neg c4] at H
  have c4b0 : (t151 == 0) = false := beq_eq_false_iff_ne.mpr c4
  have c4b1 : (t151 != 0) = true := bne_iff_ne.mpr c4
  simp only [Option.some.injEq, Prod.mk.injEq] at H
  obtain ⟨rfl, rfl, rfl⟩ := H
  go_enter Try.func42, Try.ntmps42
  go_wp2_with (first | ((with_reducible refine gate_callee (f := 33) rfl ?_); refine goesL_ (some 13) rfl rfl Try.func33 (by kernel_rfl) rfl #[.slice A0 l0.length c0] rfl (by (try simp only [List.map_toArray, List.map_cons, List.map_nil]); first | done | rfl | (simp only [List.length_drop, List.length_take]; rfl)) ?_; (with_reducible refine (suffix_Check.calls k _ _ l0 t151 _ ?side1 ?side2 A3.out).mono ?_); (case side1 => repeat (first | exact HR0.out | (with_reducible refine Kd.C_alloc ?_ _) | (with_reducible refine Kd.C_drewN ?_ _) | (with_reducible refine Kd.C_drew ?_))); (case side2 => exact HC0.out); rintro e w' ⟨rfl, ⟨nd, rfl⟩⟩; refine ⟨_, rfl, ?_⟩))
  go_ret3
  exact ⟨_, by first | rfl | (simp [errW_none, errW_some] <;> rfl) | (simp [*, errW_none, errW_some] <;> rfl), by first | exact Kd.R_nil _ _ _ _ _ | exact Kd.N_nil _ _ _ _ _ | exact Kd.V_nil _ _ _ _ _ | exact Kd.Q_nil _ _ _ _ _ | exact Kd.S_nil _ _ _ _ _, by repeat (first | (with_reducible first | exact HB.out | apply below_alloc | apply pw_below_drewN | apply below_drew1) | exact HB.out)⟩

end Go.Proofs.Ythkofhidhghmmaa.PIndC
