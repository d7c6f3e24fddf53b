-- Written by a program of this session (wip/tools/pp.sh, on the pattern of the kit's print): not typed by hand.
import Derived.Test.YtehdigkjbobndaaPFrmRx0
import Derived.Test.YtehdigkjbobndaaPFrmRx1
import Derived.Test.YtehdigkjbobndaaPFrmRx2
namespace Go.Proofs.Ytehdigkjbobndaa.PFrmR
set_option maxRecDepth 100000
open Go.RowKit Go.Proofs.YtehdigkjbobndaaW.PrintWords Go.Proofs.YtehdigkjbobndaaW.PrintLast Go.Proofs.YtehdigkjbobndaaW.PrintMore
attribute [local go_sem] max2_int min2_int max_two min_two max_three min_three max_four min_four   -- for this text's walks alone
set_option linter.unusedVariables false
set_option linter.unusedSimpArgs false

/-! ### incipitlaw04_FrameReads: function 9 -/
mutual
def incipitlaw04_FrameReads.j0 : Nat → List Int → Int → List Int → Option (Bool)
 | 0, _, _, _ => none
 | k + 1, x0, x2, x3 => if 0 ≤ (mn (x3.length : Int) 9) then (if (mn (x3.length : Int) 9) ≤ (x3.length : Int) then ((frame_Decode.f x0).bind fun bt151 => ((incipitref04_Decode.f x0).bind fun bt159 => ((frame_Open.f k x0 x2 (x3.take ((mn (x3.length : Int) 9) : Int).toNat)).bind fun bt167 => ((incipitref04_Open.f k x0 x2 (x3.take ((mn (x3.length : Int) 9) : Int).toNat)).bind fun bt175 => (if bt151.2.2.2.2 = bt159.2.2.2.2 then (if bt167.2.2.2.2 = bt175.2.2.2.2 then ((incipitlaw04_Of.f bt151.1 bt151.2.1 bt151.2.2.1 bt151.2.2.2.1).bind fun bt183 => ((incipitref04_Same.f k bt183.1 bt183.2.1 bt183.2.2.1 bt183.2.2.2 bt159.1 bt159.2.1 bt159.2.2.1 bt159.2.2.2.1).bind fun t189 => (if t189 = true then ((incipitlaw04_Of.f bt167.1 bt167.2.1 bt167.2.2.1 bt167.2.2.2.1).bind fun bt190 => ((incipitref04_Same.f k bt190.1 bt190.2.1 bt190.2.2.1 bt190.2.2.2 bt175.1 bt175.2.1 bt175.2.2.1 bt175.2.2.2.1).bind fun t196 => (incipitlaw04_FrameReads.j1 k x0 bt159.2.2.2.2 (!t196) bt151.1 bt151.2.1 bt151.2.2.1 bt151.2.2.2.1))) else (incipitlaw04_FrameReads.j1 k x0 bt159.2.2.2.2 true bt151.1 bt151.2.1 bt151.2.2.1 bt151.2.2.2.1)))) else (incipitlaw04_FrameReads.j1 k x0 bt159.2.2.2.2 true bt151.1 bt151.2.1 bt151.2.2.1 bt151.2.2.2.1)) else (incipitlaw04_FrameReads.j1 k x0 bt159.2.2.2.2 true bt151.1 bt151.2.1 bt151.2.2.1 bt151.2.2.2.1)))))) else (none)) else (none)
def incipitlaw04_FrameReads.j1 : Nat → List Int → Int → Bool → Int → Int → Int → List Int → Option (Bool)
 | 0, _, _, _, _, _, _, _ => none
 | k + 1, x0, x12, x81, x159000, x159001, x159002, x159003 => if x81 = true then (some false) else (if x12 = 0 then ((frame_Encode.f x159000 x159001 x159002 x159003).bind fun bt197 => ((incipitlaw04_known.f).bind fun t201 => (if t201 = true then (if bt197.2 = 0 then ((incipitref01_Same.f k bt197.1 x0).bind fun t202 => (some t202)) else (some false)) else (some false)))) else ((incipitlaw04_known.f).bind fun t203 => (some t203)))
end
def incipitlaw04_FrameReads.f (k : Nat) (l0 : List Int) (a1 : Bool) (a2 : Int) (l3 : List Int) : Option (Bool) := (some (([] : List Int) : List Int)).bind fun y133 => (if 0 ≤ (mn (l0.length : Int) 300) then (if (mn (l0.length : Int) 300) ≤ (l0.length : Int) then (if y133.length + (l0.take ((mn (l0.length : Int) 300) : Int).toNat).length < 140737488355328 then ((some (y133 ++ (l0.take ((mn (l0.length : Int) 300) : Int).toNat) : List Int)).bind fun y137 => (if a1 = true then ((incipitlaw03_Full.f k y137).bind fun t140 => (if 252 ≤ (t140.length : Int) then ((crc_Mark.f (t140.take 252)).bind fun t147 => (incipitlaw04_FrameReads.j0 k t147 a2 l3)) else (none))) else (incipitlaw04_FrameReads.j0 k y137 a2 l3))) else (none)) else (none)) else (none))
theorem incipitlaw04_FrameReads.mono_l : ∀ k, (∀ y0 y1 y2, LeO (incipitlaw04_FrameReads.j0 k y0 y1 y2) (incipitlaw04_FrameReads.j0 (k + 1) y0 y1 y2)) ∧ (∀ y0 y1 y2 y3 y4 y5 y6, LeO (incipitlaw04_FrameReads.j1 k y0 y1 y2 y3 y4 y5 y6) (incipitlaw04_FrameReads.j1 (k + 1) y0 y1 y2 y3 y4 y5 y6))
 | 0 => ⟨fun _ _ _ r h => by simp [incipitlaw04_FrameReads.j0] at h, fun _ _ _ _ _ _ _ r h => by simp [incipitlaw04_FrameReads.j1] at h⟩
 | k + 1 => by
  obtain ⟨ih0, ih1⟩ := incipitlaw04_FrameReads.mono_l k
  refine ⟨?_, ?_⟩
  ·intro y0 y1 y2
   unfold incipitlaw04_FrameReads.j0
   repeat' first
   | (with_reducible exact ih0 _ _ _)
   | (with_reducible exact ih1 _ _ _ _ _ _ _)
   | (with_reducible exact frame_Open.mono _ _ _ _)
   | (with_reducible exact incipitlaw03_Full.mono _ _)
   | (with_reducible exact incipitref01_Same.mono _ _ _)
   | (with_reducible exact incipitref04_Open.mono _ _ _ _)
   | (with_reducible exact incipitref04_Same.mono _ _ _ _ _ _ _ _ _)
   | (with_reducible exact LeO.refl _)
   | (with_reducible exact LeO.none _)
   | (with_reducible refine LeO.ite ?_ ?_)
   | (with_reducible refine LeO.bind ?_ (fun _ => ?_))
   | exact ih0 _ _ _
   | exact ih1 _ _ _ _ _ _ _
   | exact frame_Open.mono _ _ _ _
   | exact incipitlaw03_Full.mono _ _
   | exact incipitref01_Same.mono _ _ _
   | exact incipitref04_Open.mono _ _ _ _
   | exact incipitref04_Same.mono _ _ _ _ _ _ _ _ _
   | exact LeO.none _
   | refine LeO.ite ?_ ?_
   | refine LeO.bind ?_ (fun _ => ?_)
  ·intro y0 y1 y2 y3 y4 y5 y6
   unfold incipitlaw04_FrameReads.j1
   repeat' first
   | (with_reducible exact ih0 _ _ _)
   | (with_reducible exact ih1 _ _ _ _ _ _ _)
   | (with_reducible exact frame_Open.mono _ _ _ _)
   | (with_reducible exact incipitlaw03_Full.mono _ _)
   | (with_reducible exact incipitref01_Same.mono _ _ _)
   | (with_reducible exact incipitref04_Open.mono _ _ _ _)
   | (with_reducible exact incipitref04_Same.mono _ _ _ _ _ _ _ _ _)
   | (with_reducible exact LeO.refl _)
   | (with_reducible exact LeO.none _)
   | (with_reducible refine LeO.ite ?_ ?_)
   | (with_reducible refine LeO.bind ?_ (fun _ => ?_))
   | exact ih0 _ _ _
   | exact ih1 _ _ _ _ _ _ _
   | exact frame_Open.mono _ _ _ _
   | exact incipitlaw03_Full.mono _ _
   | exact incipitref01_Same.mono _ _ _
   | exact incipitref04_Open.mono _ _ _ _
   | exact incipitref04_Same.mono _ _ _ _ _ _ _ _ _
   | exact LeO.none _
   | refine LeO.ite ?_ ?_
   | refine LeO.bind ?_ (fun _ => ?_)
theorem incipitlaw04_FrameReads.mono : ∀ a0 a1 a2 a3 k, LeO (incipitlaw04_FrameReads.f k a0 a1 a2 a3) (incipitlaw04_FrameReads.f (k + 1) a0 a1 a2 a3) := by
 intro a0 a1 a2 a3 k
 obtain ⟨ih0, ih1⟩ := incipitlaw04_FrameReads.mono_l k
 unfold incipitlaw04_FrameReads.f
 repeat' first
   | (with_reducible exact ih0 _ _ _)
   | (with_reducible exact ih1 _ _ _ _ _ _ _)
   | (with_reducible exact frame_Open.mono _ _ _ _)
   | (with_reducible exact incipitlaw03_Full.mono _ _)
   | (with_reducible exact incipitref01_Same.mono _ _ _)
   | (with_reducible exact incipitref04_Open.mono _ _ _ _)
   | (with_reducible exact incipitref04_Same.mono _ _ _ _ _ _ _ _ _)
   | (with_reducible exact LeO.refl _)
   | (with_reducible exact LeO.none _)
   | (with_reducible refine LeO.ite ?_ ?_)
   | (with_reducible refine LeO.bind ?_ (fun _ => ?_))
   | exact ih0 _ _ _
   | exact ih1 _ _ _ _ _ _ _
   | exact frame_Open.mono _ _ _ _
   | exact incipitlaw03_Full.mono _ _
   | exact incipitref01_Same.mono _ _ _
   | exact incipitref04_Open.mono _ _ _ _
   | exact incipitref04_Same.mono _ _ _ _ _ _ _ _ _
   | exact LeO.none _
   | refine LeO.ite ?_ ?_
   | refine LeO.bind ?_ (fun _ => ?_)
def incipitlaw04_FrameReads.T9 : Bool × List (List Nat × List Nat) := (true, [([], []), ([], []), ([0, 1], [0, 1]), ([2], [2]), ([3], [3]), ([3], [3]), ([4, 5, 3], [3, 4, 5]), ([3, 6], [3, 6]), ([7, 3], [7]), ([8], [8]), ([9, 8, 8], [8, 9]), ([8], [8]), ([10, 11, 10, 8], [8, 10, 11]), ([12, 8], [8, 12]), ([8, 13], [8, 13]), ([14, 12], [14]), ([15], [15]), ([16, 15, 15], [15, 16]), ([15], [15]), ([17, 18, 17, 15], [15, 17, 18]), ([19, 15], [15, 19]), ([15, 20], [15, 20])])
def incipitlaw04_FrameReads.B9 : List Nat := [0, 0, 3, 7, 15, 15, 63, 127, 255, 511, 1023, 511, 4095, 8191, 16383, 32767, 65535, 131071, 65535, 524287, 1048575, 2097151]
theorem incipitlaw04_FrameReads.tab9 : rtab .any (opsOf Try.f9 9) = incipitlaw04_FrameReads.T9 := by kernel_rfl
theorem incipitlaw04_FrameReads.bits9 : waitsOk incipitlaw04_FrameReads.T9.2 incipitlaw04_FrameReads.B9 = true := by kernel_rfl
set_option maxHeartbeats 8000000 in
set_option maxRecDepth 100000 in
theorem incipitlaw04_FrameReads.calls (k : Nat) (A0 : Option Addr) (c0 : Nat) (l0 : List Int) (a1 : Bool) (a2 : Int) (A3 : Option Addr) (c3 : Nat) (l3 : List Int) (r : Bool) (w : World) (hr0 : Kd.C (Kd.int .u8) w A0 l0.length l0) (hc0 : l0.length ≤ c0) (hr3 : Kd.C (Kd.int .i64) w A3 l3.length l3) (hc3 : l3.length ≤ c3) (h : incipitlaw04_FrameReads.f k l0 a1 a2 l3 = some r) (hr_ : r = true) :
  Calls Try.prog 9 #[.slice A0 l0.length c0, .bool a1, .int .i64 a2, .slice A3 l3.length c3] w fun e w' => e = .returned (.bool r) ∧ Below w.heap.size w w' := by
 have hu67 := Try.underlying67
 have hu66 := Try.underlying66
 have HR0 := Aside0.mk hr0
 have HC0 := Aside0.mk hc0
 clear hr0 hc0
 have HR3 := Aside0.mk hr3
 have HC3 := Aside0.mk hc3
 clear hr3 hc3
 have HB := Aside0.mk (Below.refl w.heap.size w)
 have HR_ := Aside0.mk hr_
 clear hr_
 have H : ((some (([] : List Int) : List Int)).bind fun y133 => (if 0 ≤ (mn (l0.length : Int) 300) then (if (mn (l0.length : Int) 300) ≤ (l0.length : Int) then (if y133.length + (l0.take ((mn (l0.length : Int) 300) : Int).toNat).length < 140737488355328 then ((some (y133 ++ (l0.take ((mn (l0.length : Int) 300) : Int).toNat) : List Int)).bind fun y137 => (if a1 = true then ((incipitlaw03_Full.f k y137).bind fun t140 => (if 252 ≤ (t140.length : Int) then ((crc_Mark.f (t140.take 252)).bind fun t147 => (incipitlaw04_FrameReads.j0 k t147 a2 l3)) else (none))) else (incipitlaw04_FrameReads.j0 k y137 a2 l3))) else (none)) else (none)) else (none))) = some r := h
 clear h
 obtain ⟨y133, hy133⟩ : ∃ y_ : List Int, y_ = (([] : List Int)) := ⟨_, rfl⟩
 replace H : (if 0 ≤ (mn (l0.length : Int) 300) then (if (mn (l0.length : Int) 300) ≤ (l0.length : Int) then (if y133.length + (l0.take ((mn (l0.length : Int) 300) : Int).toNat).length < 140737488355328 then ((some (y133 ++ (l0.take ((mn (l0.length : Int) 300) : Int).toNat) : List Int)).bind fun y137 => (if a1 = true then ((incipitlaw03_Full.f k y137).bind fun t140 => (if 252 ≤ (t140.length : Int) then ((crc_Mark.f (t140.take 252)).bind fun t147 => (incipitlaw04_FrameReads.j0 k t147 a2 l3)) else (none))) else (incipitlaw04_FrameReads.j0 k y137 a2 l3))) else (none)) else (none)) else (none)) = some r := by first | (rw [hy133]; with_reducible exact H) | (have H2_ := (Option.bind_some _ _).symm.trans H; rw [hy133]; with_reducible exact H2_) | (have H2_ := (Option.bind_some _ _).symm.trans H; with_reducible exact H2_) | with_reducible exact H | (rw [hy133]; exact H) | exact H
 have Ny133 := Aside0.mk hy133
 clear hy133
 obtain ⟨ji5, hji5⟩ : ∃ j_ : Int, (mn (l0.length : Int) 300) = j_ := ⟨_, rfl⟩
 replace H : (if 0 ≤ (ji5) then (if (ji5) ≤ (l0.length : Int) then (if y133.length + (l0.take ((ji5) : Int).toNat).length < 140737488355328 then ((some (y133 ++ (l0.take ((ji5) : Int).toNat) : List Int)).bind fun y137 => (if a1 = true then ((incipitlaw03_Full.f k y137).bind fun t140 => (if 252 ≤ (t140.length : Int) then ((crc_Mark.f (t140.take 252)).bind fun t147 => (incipitlaw04_FrameReads.j0 k t147 a2 l3)) else (none))) else (incipitlaw04_FrameReads.j0 k y137 a2 l3))) else (none)) else (none)) else (none)) = some r := by first | (rw [hji5] at H; exact H) | (simp only [hji5] at H ⊢; exact H)
 (try (have hji5h : ji5 ≤ 300 := by (rw [← hji5]; unfold mn; (repeat' split) <;> omega)))
 (try (have hji5g : ji5 ≤ 64 := by omega))
 (try (have hji5l : 0 ≤ ji5 := by (rw [← hji5]; unfold mn; (repeat' split) <;> omega)))
 (try (have hji5m : 0 ≤ ji5 := by omega))
 have hji5_ : (if 300 < (l0.length : Int) then 300 else (l0.length : Int)) = ji5 := hji5
 by_cases c6 : 0 ≤ (ji5)
 ·rw [if_pos c6] at H
  have c6b0 := eq_true c6
  have c6b1 : decide (0 ≤ (ji5)) = true := decide_eq_true c6
  clear c6
  by_cases c7 : (ji5) ≤ (l0.length : Int)
  ·rw [if_pos c7] at H
   have c7b0 := eq_true c7
   have c7b1 : decide ((ji5) ≤ (l0.length : Int)) = true := decide_eq_true c7
   clear c7
   by_cases c8 : y133.length + (l0.take ((ji5) : Int).toNat).length < 140737488355328
   ·rw [if_pos c8] at H
    have LMc8 := Aside0.mk c8
    clear c8
    obtain ⟨y137, hy137⟩ : ∃ y_ : List Int, y_ = (y133 ++ (l0.take ((ji5) : Int).toNat)) := ⟨_, rfl⟩
    replace H : (if a1 = true then ((incipitlaw03_Full.f k y137).bind fun t140 => (if 252 ≤ (t140.length : Int) then ((crc_Mark.f (t140.take 252)).bind fun t147 => (incipitlaw04_FrameReads.j0 k t147 a2 l3)) else (none))) else (incipitlaw04_FrameReads.j0 k y137 a2 l3)) = some r := by first | (rw [hy137]; with_reducible exact H) | (have H2_ := (Option.bind_some _ _).symm.trans H; rw [hy137]; with_reducible exact H2_) | (have H2_ := (Option.bind_some _ _).symm.trans H; with_reducible exact H2_) | with_reducible exact H | (rw [hy137]; exact H) | exact H
    have Ny137 := Aside0.mk hy137
    clear hy137
    have HC9 := Aside0.mk H
    clear H
    go_enter Try.func9, Try.ntmps9
    go_upto_if 26 with (first | ((with_reducible refine gate_dst (N := 19) rfl ?_); refine Kd.R_lit (Kd.int .u8) _ 5 ?hg (N := 19) ?hd (xs := ([] : List Int)) (inner := []) (ok := fun _ => True) (okp := fun _ => True) ?hr ?hp (fun _ hk => hk) trivial (Below.refl _ _) (Nat.le_refl _) (by simp) ?_; (case hd => rfl); (case hg => rfl); (case hr => first | (go_simp; done) | (go_simp; rfl)); (case hp => exact (Reps.none _ _)); intro v134 w10 ho11 hb hg_ hnew_; clear hg_ hnew_; (first | rw [← Ny133.out] at ho11 | (simp only [Int.reduceToNat] at ho11; rw [← Ny133.out] at ho11)); have n0_ := Aside0.mk (Kd.R_lower ho11 (below_size (by repeat (first | (with_reducible first | exact HB.out | apply below_alloc | apply pw_below_drewN | apply below_drew1) | exact HB.out)))); have n1_ := Aside0.mk (below_step (by repeat (first | (with_reducible first | exact HB.out | apply below_alloc | apply pw_below_drewN | apply below_drew1) | exact HB.out)) hb); clear HB; have HO135 := n0_; have HB := n1_; clear n0_ n1_; clear hb ho11; obtain ⟨i012, hi012, _, hsz12, _⟩ := info_parts info5; obtain ⟨hcut12, hA12, hC12⟩ := print_take_of (P := Try.prog) (Value.int .u8) 0 22 5 .i64 Try.underlying22 hi012 hsz12 A0 c0 l0 (ji5) (of_decide_eq_true (by first | (with_reducible assumption) | assumption)) (of_decide_eq_true (by first | (with_reducible assumption) | assumption)) HC0.out; have HR136 := Aside0.mk (Kd.C_of_reads (h1 := fun _ => rfl) (hA12 _ (Kd.reads_of_C HR0.out))); have HC136 := Aside0.mk hC12; clear hA12 hC12 hi012 hsz12; have hSL12 := Aside0.mk (show (l0.take ((ji5) : Int).toNat).length = (ji5).toNat from (by rw [List.length_take]; have h_ : ((ji5) : Int) ≤ (l0.length : Int) := of_decide_eq_true (by first | (with_reducible assumption) | assumption); omega))) | ((with_reducible refine gate_builtin (b := .append) (xs := #[.tmp 19, .tmp 24]) rfl ?_); at_builtin; refine Kd.R_append_rows (Kd.int .u8) (w0 := w) w.heap.size rfl (.tmp 19) (.tmp 24) 22 5 (.int .u8 0) 1 rfl Try.underlying22 info5 rfl (by decide) (by omega) v134 y133 (l0.take ((ji5) : Int).toNat) _ _ _ (fun _ => True) (fun _ => False) rfl rfl ?aO ?aR (fun _ _ h => h) (fun _ h => h.elim) ?aF ?aB ?aS ?aL ?_; (case aR => first | (have h_ := (Kd.C_below HR136.out HB.out); rw [hSL12.out] at h_; exact h_) | (rw [← show (l0.take ((ji5) : Int).toNat).length = (ji5).toNat from hSL12.out]; repeat (first | exact (Kd.C_below HR136.out HB.out) | (with_reducible refine Kd.C_alloc ?_ _) | (with_reducible refine Kd.C_drewN ?_ _) | (with_reducible refine Kd.C_drew ?_))) | (repeat (first | exact (Kd.C_below HR136.out HB.out) | (with_reducible refine Kd.C_alloc ?_ _) | (with_reducible refine Kd.C_drewN ?_ _) | (with_reducible refine Kd.C_drew ?_)))); (case aB => exact (by repeat (first | (with_reducible first | exact HB.out | apply below_alloc | apply pw_below_drewN | apply below_drew1) | exact HB.out))); (case aF => exact (fun _ _ => trivial)); (case aO => exact (by (with_reducible repeat (first | apply Kd.R_alloc | apply Kd.R_drewN | apply Kd.R_drew)); exact HO135.out)); (case aS => exact (below_size (by repeat (first | (with_reducible first | exact HB.out | apply below_alloc | apply pw_below_drewN | apply below_drew1) | exact HB.out)))); (case aL => have := LMc8.out; have hlx_ := (show (l0.take ((ji5) : Int).toNat).length = (ji5).toNat from hSL12.out); omega); intro v138 w13 ho hb hg hat; rw [← Ny137.out] at ho; have n0_ := Aside0.mk (hb); have n1_ := Aside0.mk (ho); clear HB; clear HO135; have HB := n0_; have HO139 := n1_; clear n0_ n1_; clear ho hb hg hat))
    (try simp only [Act.put, List.setIfInBounds_toArray, List.set_cons_zero, List.set_cons_succ])
    go_cut [0] (fun v0 wc => ∃ (kq : Nat) (x0_8 : List Int), Aside0 (incipitlaw04_FrameReads.j0 kq x0_8 a2 l3 = some r) ∧ Aside0 (kq ≤ k) ∧ Aside0 (Kd.R (Kd.int .u8) 5 wc w.heap.size (fun _ => True) v0 x0_8) ∧ Aside0 (Below w.heap.size w wc))
    case first =>
     have H := HC9.out
     clear HC9
     by_cases c14 : a1 = true
     ·subst c14
      have H1 : ((incipitlaw03_Full.f k y137).bind fun t140 => (if 252 ≤ (t140.length : Int) then ((crc_Mark.f (t140.take 252)).bind fun t147 => (incipitlaw04_FrameReads.j0 k t147 a2 l3)) else (none))) = some r := by rw [if_pos rfl] at H; exact H
      clear H
      have H := H1
      clear H1
      replace H := Option.bind_eq_some_iff.mp H
      obtain ⟨t140, A150, H⟩ := H
      replace H : (if 252 ≤ (t140.length : Int) then ((crc_Mark.f (t140.take 252)).bind fun t147 => (incipitlaw04_FrameReads.j0 k t147 a2 l3)) else (none)) = some r := H
      have A15 := Aside0.mk A150
      clear A150
      by_cases c16 : 252 ≤ (t140.length : Int)
      ·rw [if_pos c16] at H
       have c16b0 := eq_true c16
       have c16b1 : decide (252 ≤ (t140.length : Int)) = true := decide_eq_true c16
       clear c16
       obtain ⟨y143, hy143⟩ : ∃ y_ : List Int, y_ = (t140.take 252) := ⟨_, rfl⟩
       replace H : ((crc_Mark.f y143).bind fun t147 => (incipitlaw04_FrameReads.j0 k t147 a2 l3)) = some r := by first | (rw [hy143]; with_reducible exact H) | (have H2_ := (Option.bind_some _ _).symm.trans H; rw [hy143]; with_reducible exact H2_) | (have H2_ := (Option.bind_some _ _).symm.trans H; with_reducible exact H2_) | with_reducible exact H | (rw [hy143]; exact H) | exact H
       have Ny143 := Aside0.mk hy143
       clear hy143
       replace H := Option.bind_eq_some_iff.mp H
       obtain ⟨t147, A170, H⟩ := H
       replace H : (incipitlaw04_FrameReads.j0 k t147 a2 l3) = some r := H
       have A17 := Aside0.mk A170
       clear A170
       have H' := Aside0.mk H
       clear H
       obtain ⟨Ao18, co18, eo18⟩ := Kd.R_slice HO139.out
       subst eo18
       go_wp2_with (first | ((with_reducible refine gate_callee (f := 20) rfl ?_); refine goesL_ (some 28) rfl rfl Try.func20 (by kernel_rfl) rfl #[.slice Ao18 y137.length co18] rfl (by (try simp only [List.map_toArray, List.map_cons, List.map_nil]); first | done | rfl | (simp only [List.length_drop, List.length_take]; rfl)) ?_; (with_reducible refine (incipitlaw03_Full.calls k _ _ y137 t140 _ ?side1 ?side2 A15.out).mono ?_); (case side1 => repeat (first | exact (Kd.R_reads' HO139.out).2.2 | (with_reducible refine Kd.C_alloc ?_ _) | (with_reducible refine Kd.C_drewN ?_ _) | (with_reducible refine Kd.C_drew ?_))); (case side2 => exact (Kd.R_reads' HO139.out).2.1); rintro e w19 ⟨v141, rfl, ho0, hb⟩; refine ⟨_, rfl, ?_⟩; have n0_ := Aside0.mk (Kd.R_elder' (by (with_reducible repeat (first | apply Kd.R_alloc | apply Kd.R_drewN | apply Kd.R_drew)); exact HO139.out) (Kd.R_base ho0) hb); have n1_ := Aside0.mk (Kd.R_lower (Kd.R_new' ho0 (Kd.R_lt (by (with_reducible repeat (first | apply Kd.R_alloc | apply Kd.R_drewN | apply Kd.R_drew)); exact HO139.out))) (below_size (by repeat (first | (with_reducible first | exact HB.out | apply below_alloc | apply pw_below_drewN | apply below_drew1) | exact HB.out)))); have n2_ := Aside0.mk (below_step (by repeat (first | (with_reducible first | exact HB.out | apply below_alloc | apply pw_below_drewN | apply below_drew1) | exact HB.out)) hb); clear HO139; clear HB; have HO139 := n0_; have HO142 := n1_; have HB := n2_; clear n0_ n1_ n2_; (try clear hb); (try clear hb2); (try clear hk); (try clear hi); (try clear ho0); obtain ⟨Ao21, co21, eo21⟩ := Kd.R_slice HO142.out; subst eo21; have q20 : (252 : Int) ≤ ((t140.length : Int) : Int) := of_decide_eq_true (by first | (with_reducible assumption) | assumption); obtain ⟨i020, hi020, _, hsz20, _⟩ := info_parts info5; have hroom20 : t140.length ≤ co21 := (Kd.R_reads' HO142.out).2.1; have hC20 : Kd.C (Kd.int .u8) _ Ao21 t140.length t140 := (Kd.R_reads' HO142.out).2.2; have hcut20 := cut_to (P := Try.prog) 22 5 .i64 Try.underlying22 hi020 Ao21 t140.length co21 252 (by omega) q20 hroom20; have hr20 := Kd.C_take (m := 252) hC20 (by omega); have hy20 : y143.length = (252 : Int).toNat := (by rw [Ny143.out, List.length_take]; omega); rw [← Ny143.out] at hr20; rw [← hy20] at hcut20; have HR146 := Aside0.mk hr20; have HC146 := Aside0.mk (show y143.length ≤ co21 from by omega); clear hr20 hC20 hroom20 hi020 hsz20; have KY20 := Aside0.mk hy20; clear hy20; have KL20 := Aside0.mk (show 252 ≤ t140.length from by omega); replace q20 := eq_true q20) | ((with_reducible refine gate_callee (f := 45) rfl ?_); refine goesL_ (some 30) rfl rfl Try.func45 (by kernel_rfl) rfl #[.slice Ao21 y143.length co21] rfl (by (try simp only [List.map_toArray, List.map_cons, List.map_nil]); first | done | rfl | (simp only [List.length_drop, List.length_take]; rfl)) ?_; (with_reducible refine (crc_Mark.calls _ _ y143 t147 _ ?side1 ?side2 A17.out).mono ?_); (case side1 => repeat (first | exact (by repeat (first | (with_reducible exact HR146.out) | (with_reducible refine Kd.C_alloc ?_ _) | (with_reducible refine Kd.C_drewN ?_ _) | (with_reducible refine Kd.C_drew ?_) | exact HR146.out)) | (with_reducible refine Kd.C_alloc ?_ _) | (with_reducible refine Kd.C_drewN ?_ _) | (with_reducible refine Kd.C_drew ?_))); (case side2 => exact HC146.out); rintro e w22 ⟨v148, rfl, ho0, hb⟩; refine ⟨_, rfl, ?_⟩; have n0_ := Aside0.mk (Kd.R_elder' (by (with_reducible repeat (first | apply Kd.R_alloc | apply Kd.R_drewN | apply Kd.R_drew)); exact HO139.out) (Kd.R_base ho0) hb); have n1_ := Aside0.mk (Kd.R_elder' (by (with_reducible repeat (first | apply Kd.R_alloc | apply Kd.R_drewN | apply Kd.R_drew)); exact HO142.out) (Kd.R_base ho0) hb); have n2_ := Aside0.mk (Kd.R_lower (Kd.R_new' (Kd.R_new' ho0 (Kd.R_lt (by (with_reducible repeat (first | apply Kd.R_alloc | apply Kd.R_drewN | apply Kd.R_drew)); exact HO139.out))) (Kd.R_lt (by (with_reducible repeat (first | apply Kd.R_alloc | apply Kd.R_drewN | apply Kd.R_drew)); exact HO142.out))) (below_size (by repeat (first | (with_reducible first | exact HB.out | apply below_alloc | apply pw_below_drewN | apply below_drew1) | exact HB.out)))); have n3_ := Aside0.mk (Kd.C_below (by repeat (first | (with_reducible exact HR146.out) | (with_reducible refine Kd.C_alloc ?_ _) | (with_reducible refine Kd.C_drewN ?_ _) | (with_reducible refine Kd.C_drew ?_) | exact HR146.out)) hb); have n4_ := Aside0.mk (below_step (by repeat (first | (with_reducible first | exact HB.out | apply below_alloc | apply pw_below_drewN | apply below_drew1) | exact HB.out)) hb); clear HO139; clear HO142; clear HR146; clear HB; have HO139 := n0_; have HO142 := n1_; have HO149 := n2_; have HR146 := n3_; have HB := n4_; clear n0_ n1_ n2_ n3_ n4_; (try clear hb); (try clear hb2); (try clear hk); (try clear hi); (try clear ho0)))
       go_meet
       case rel => exact ⟨_, (t147), H', ⟨by first | omega | exact Nat.le_refl _⟩, ⟨by (with_reducible repeat (first | apply Kd.R_alloc | apply Kd.R_drewN | apply Kd.R_drew)); exact Kd.R_mono HO149.out (fun _ hk => trivial)⟩, ⟨by repeat (first | (with_reducible first | exact HB.out | apply below_alloc | apply pw_below_drewN | apply below_drew1) | exact HB.out)⟩⟩
      ·rw [if_neg c16] at H
       exact absurd H (by simp)
     ·replace c14 := Bool.eq_false_iff.mpr c14
      subst c14
      have H1 : (incipitlaw04_FrameReads.j0 k y137 a2 l3) = some r := by rw [if_neg (show ¬ (false = true) by decide)] at H; exact H
      clear H
      have H := H1
      clear H1
      have H' := Aside0.mk H
      clear H
      go_wp2
      go_meet
      case rel => exact ⟨_, (y137), H', ⟨by first | omega | exact Nat.le_refl _⟩, ⟨by (with_reducible repeat (first | apply Kd.R_alloc | apply Kd.R_drewN | apply Kd.R_drew)); exact HO139.out⟩, ⟨by repeat (first | (with_reducible first | exact HB.out | apply below_alloc | apply pw_below_drewN | apply below_drew1) | exact HB.out)⟩⟩
    case rest =>
     clear HC9
     try clear c1
     try clear c2
     try clear p2
     try clear q2
     try clear c3
     try clear c4
     try clear c6
     try clear c6b0
     try clear c6b1
     try clear c7
     try clear c7b0
     try clear c7b1
     try clear c8
     try clear c9
     try clear c14
     try clear c16
     try clear c16b0
     try clear c16b1
     try clear c20
     try clear q20
     try clear q20
     obtain ⟨kq, x0_8, HA, HJ8, HO_0, HB⟩ := hcut
     cases kq with
     | zero => exact absurd HA.out (by simp [incipitlaw04_FrameReads.j0])
     | succ kj8 =>
      have H := HA.out
      clear HA
      simp only [incipitlaw04_FrameReads.j0] at H
      obtain ⟨ji23, hji23⟩ : ∃ j_ : Int, (mn (l3.length : Int) 9) = j_ := ⟨_, rfl⟩
      replace H : (if 0 ≤ (ji23) then (if (ji23) ≤ (l3.length : Int) then ((frame_Decode.f x0_8).bind fun bt151 => ((incipitref04_Decode.f x0_8).bind fun bt159 => ((frame_Open.f kj8 x0_8 a2 (l3.take ((ji23) : Int).toNat)).bind fun bt167 => ((incipitref04_Open.f kj8 x0_8 a2 (l3.take ((ji23) : Int).toNat)).bind fun bt175 => (if bt151.2.2.2.2 = bt159.2.2.2.2 then (if bt167.2.2.2.2 = bt175.2.2.2.2 then ((incipitlaw04_Of.f bt151.1 bt151.2.1 bt151.2.2.1 bt151.2.2.2.1).bind fun bt183 => ((incipitref04_Same.f kj8 bt183.1 bt183.2.1 bt183.2.2.1 bt183.2.2.2 bt159.1 bt159.2.1 bt159.2.2.1 bt159.2.2.2.1).bind fun t189 => (if t189 = true then ((incipitlaw04_Of.f bt167.1 bt167.2.1 bt167.2.2.1 bt167.2.2.2.1).bind fun bt190 => ((incipitref04_Same.f kj8 bt190.1 bt190.2.1 bt190.2.2.1 bt190.2.2.2 bt175.1 bt175.2.1 bt175.2.2.1 bt175.2.2.2.1).bind fun t196 => (incipitlaw04_FrameReads.j1 kj8 x0_8 bt159.2.2.2.2 (!t196) bt151.1 bt151.2.1 bt151.2.2.1 bt151.2.2.2.1))) else (incipitlaw04_FrameReads.j1 kj8 x0_8 bt159.2.2.2.2 true bt151.1 bt151.2.1 bt151.2.2.1 bt151.2.2.2.1)))) else (incipitlaw04_FrameReads.j1 kj8 x0_8 bt159.2.2.2.2 true bt151.1 bt151.2.1 bt151.2.2.1 bt151.2.2.2.1)) else (incipitlaw04_FrameReads.j1 kj8 x0_8 bt159.2.2.2.2 true bt151.1 bt151.2.1 bt151.2.2.1 bt151.2.2.2.1)))))) else (none)) else (none)) = some r := by first | (rw [hji23] at H; exact H) | (simp only [hji23] at H ⊢; exact H)
      have hji23_ : (if 9 < (l3.length : Int) then 9 else (l3.length : Int)) = ji23 := hji23
      by_cases c24 : 0 ≤ (ji23)
      ·rw [if_pos c24] at H
       have c24b0 := eq_true c24
       have c24b1 : decide (0 ≤ (ji23)) = true := decide_eq_true c24
       clear c24
       by_cases c25 : (ji23) ≤ (l3.length : Int)
       ·rw [if_pos c25] at H
        have c25b0 := eq_true c25
        have c25b1 : decide ((ji23) ≤ (l3.length : Int)) = true := decide_eq_true c25
        clear c25
        replace H := Option.bind_eq_some_iff.mp H
        obtain ⟨⟨t151, t152, t153, t154, t157⟩, A260, H⟩ := H
        replace H : ((incipitref04_Decode.f x0_8).bind fun bt159 => ((frame_Open.f kj8 x0_8 a2 (l3.take ((ji23) : Int).toNat)).bind fun bt167 => ((incipitref04_Open.f kj8 x0_8 a2 (l3.take ((ji23) : Int).toNat)).bind fun bt175 => (if t157 = bt159.2.2.2.2 then (if bt167.2.2.2.2 = bt175.2.2.2.2 then ((incipitlaw04_Of.f t151 t152 t153 t154).bind fun bt183 => ((incipitref04_Same.f kj8 bt183.1 bt183.2.1 bt183.2.2.1 bt183.2.2.2 bt159.1 bt159.2.1 bt159.2.2.1 bt159.2.2.2.1).bind fun t189 => (if t189 = true then ((incipitlaw04_Of.f bt167.1 bt167.2.1 bt167.2.2.1 bt167.2.2.2.1).bind fun bt190 => ((incipitref04_Same.f kj8 bt190.1 bt190.2.1 bt190.2.2.1 bt190.2.2.2 bt175.1 bt175.2.1 bt175.2.2.1 bt175.2.2.2.1).bind fun t196 => (incipitlaw04_FrameReads.j1 kj8 x0_8 bt159.2.2.2.2 (!t196) t151 t152 t153 t154))) else (incipitlaw04_FrameReads.j1 kj8 x0_8 bt159.2.2.2.2 true t151 t152 t153 t154)))) else (incipitlaw04_FrameReads.j1 kj8 x0_8 bt159.2.2.2.2 true t151 t152 t153 t154)) else (incipitlaw04_FrameReads.j1 kj8 x0_8 bt159.2.2.2.2 true t151 t152 t153 t154))))) = some r := H
        have A26 := Aside0.mk A260
        clear A260
        replace H := Option.bind_eq_some_iff.mp H
        obtain ⟨⟨t159, t160, t161, t162, t165⟩, A270, H⟩ := H
        replace H : ((frame_Open.f kj8 x0_8 a2 (l3.take ((ji23) : Int).toNat)).bind fun bt167 => ((incipitref04_Open.f kj8 x0_8 a2 (l3.take ((ji23) : Int).toNat)).bind fun bt175 => (if t157 = t165 then (if bt167.2.2.2.2 = bt175.2.2.2.2 then ((incipitlaw04_Of.f t151 t152 t153 t154).bind fun bt183 => ((incipitref04_Same.f kj8 bt183.1 bt183.2.1 bt183.2.2.1 bt183.2.2.2 t159 t160 t161 t162).bind fun t189 => (if t189 = true then ((incipitlaw04_Of.f bt167.1 bt167.2.1 bt167.2.2.1 bt167.2.2.2.1).bind fun bt190 => ((incipitref04_Same.f kj8 bt190.1 bt190.2.1 bt190.2.2.1 bt190.2.2.2 bt175.1 bt175.2.1 bt175.2.2.1 bt175.2.2.2.1).bind fun t196 => (incipitlaw04_FrameReads.j1 kj8 x0_8 t165 (!t196) t151 t152 t153 t154))) else (incipitlaw04_FrameReads.j1 kj8 x0_8 t165 true t151 t152 t153 t154)))) else (incipitlaw04_FrameReads.j1 kj8 x0_8 t165 true t151 t152 t153 t154)) else (incipitlaw04_FrameReads.j1 kj8 x0_8 t165 true t151 t152 t153 t154)))) = some r := H
        have A27 := Aside0.mk A270
        clear A270
        replace H := Option.bind_eq_some_iff.mp H
        obtain ⟨⟨t167, t168, t169, t170, t173⟩, A280, H⟩ := H
        replace H : ((incipitref04_Open.f kj8 x0_8 a2 (l3.take ((ji23) : Int).toNat)).bind fun bt175 => (if t157 = t165 then (if t173 = bt175.2.2.2.2 then ((incipitlaw04_Of.f t151 t152 t153 t154).bind fun bt183 => ((incipitref04_Same.f kj8 bt183.1 bt183.2.1 bt183.2.2.1 bt183.2.2.2 t159 t160 t161 t162).bind fun t189 => (if t189 = true then ((incipitlaw04_Of.f t167 t168 t169 t170).bind fun bt190 => ((incipitref04_Same.f kj8 bt190.1 bt190.2.1 bt190.2.2.1 bt190.2.2.2 bt175.1 bt175.2.1 bt175.2.2.1 bt175.2.2.2.1).bind fun t196 => (incipitlaw04_FrameReads.j1 kj8 x0_8 t165 (!t196) t151 t152 t153 t154))) else (incipitlaw04_FrameReads.j1 kj8 x0_8 t165 true t151 t152 t153 t154)))) else (incipitlaw04_FrameReads.j1 kj8 x0_8 t165 true t151 t152 t153 t154)) else (incipitlaw04_FrameReads.j1 kj8 x0_8 t165 true t151 t152 t153 t154))) = some r := H
        have A28 := Aside0.mk A280
        clear A280
        replace H := Option.bind_eq_some_iff.mp H
        obtain ⟨⟨t175, t176, t177, t178, t181⟩, A290, H⟩ := H
        replace H : (if t157 = t165 then (if t173 = t181 then ((incipitlaw04_Of.f t151 t152 t153 t154).bind fun bt183 => ((incipitref04_Same.f kj8 bt183.1 bt183.2.1 bt183.2.2.1 bt183.2.2.2 t159 t160 t161 t162).bind fun t189 => (if t189 = true then ((incipitlaw04_Of.f t167 t168 t169 t170).bind fun bt190 => ((incipitref04_Same.f kj8 bt190.1 bt190.2.1 bt190.2.2.1 bt190.2.2.2 t175 t176 t177 t178).bind fun t196 => (incipitlaw04_FrameReads.j1 kj8 x0_8 t165 (!t196) t151 t152 t153 t154))) else (incipitlaw04_FrameReads.j1 kj8 x0_8 t165 true t151 t152 t153 t154)))) else (incipitlaw04_FrameReads.j1 kj8 x0_8 t165 true t151 t152 t153 t154)) else (incipitlaw04_FrameReads.j1 kj8 x0_8 t165 true t151 t152 t153 t154)) = some r := H
        have A29 := Aside0.mk A290
        clear A290
        have HC30 := Aside0.mk H
        clear H
        obtain ⟨i031, hi031, _, hsz31, _⟩ := info_parts info3
        obtain ⟨hcut31, hA31, hC31⟩ := print_take_of (P := Try.prog) (Value.int .i64) 0 79 3 .i64 Try.underlying79 hi031 hsz31 A3 c3 l3 (ji23) (of_decide_eq_true (by first | (with_reducible assumption) | assumption)) (of_decide_eq_true (by first | (with_reducible assumption) | assumption)) HC3.out
        have HR150 := Aside0.mk (Kd.C_of_reads (h1 := fun _ => rfl) (hA31 _ (Kd.reads_of_C HR3.out)))
        have HC150 := Aside0.mk hC31
        clear hA31 hC31 hi031 hsz31
        have hSL31 := Aside0.mk (show (l3.take ((ji23) : Int).toNat).length = (ji23).toNat from (by rw [List.length_take]; have h_ : ((ji23) : Int) ≤ (l3.length : Int) := of_decide_eq_true (by first | (with_reducible assumption) | assumption); omega))
        obtain ⟨Ao32, co32, eo32⟩ := Kd.R_slice HO_0.out
        subst eo32
        go_upto_region 9 with (first | ((with_reducible refine gate_callee (f := 43) rfl ?_); refine goesL_ (some 38) rfl rfl Try.func43 (by kernel_rfl) rfl #[.slice Ao32 x0_8.length co32] rfl (by (try simp only [List.map_toArray, List.map_cons, List.map_nil]); first | done | rfl | (simp only [List.length_drop, List.length_take]; rfl)) ?_; (with_reducible refine (frame_Decode.calls _ _ x0_8 t151 t152 t153 t154 t157 _ ?side1 ?side2 A26.out).mono ?_); (case side1 => repeat (first | exact (Kd.R_reads' HO_0.out).2.2 | (with_reducible refine Kd.C_alloc ?_ _) | (with_reducible refine Kd.C_drewN ?_ _) | (with_reducible refine Kd.C_drew ?_))); (case side2 => exact (Kd.R_reads' HO_0.out).2.1); rintro e w33 ⟨v155, rfl, ho0, hb⟩; refine ⟨_, rfl, ?_⟩; have n0_ := Aside0.mk (Kd.R_elder' (by (with_reducible repeat (first | apply Kd.R_alloc | apply Kd.R_drewN | apply Kd.R_drew)); exact HO_0.out) (Kd.R_base ho0) hb); have n1_ := Aside0.mk (Kd.R_lower (Kd.R_new' ho0 (Kd.R_lt (by (with_reducible repeat (first | apply Kd.R_alloc | apply Kd.R_drewN | apply Kd.R_drew)); exact HO_0.out))) (below_size (by repeat (first | (with_reducible first | exact HB.out | apply below_alloc | apply pw_below_drewN | apply below_drew1) | exact HB.out)))); have n2_ := Aside0.mk (below_step (by repeat (first | (with_reducible first | exact HB.out | apply below_alloc | apply pw_below_drewN | apply below_drew1) | exact HB.out)) hb); clear HO_0; clear HB; have HO_0 := n0_; have HO156 := n1_; have HB := n2_; clear n0_ n1_ n2_; (try clear hb); (try clear hb2); (try clear hk); (try clear hi); (try clear ho0)) | ((with_reducible refine gate_dst (N := 9) rfl ?_); refine box_event ?hg (N := 9) ?hd (cs := #[.int .i64 0, .int .i64 0, .int .i64 0, .slice none 0 0]) (t := 67) ?hr ?_; (case hd => rfl); (case hg => rfl); (case hr => first | (go_simp; done) | (go_simp; rfl)); intro gb158 hg w34 hbox hb; have n0_ := Aside0.mk (Kd.R_below (by (with_reducible repeat (first | apply Kd.R_alloc | apply Kd.R_drewN | apply Kd.R_drew)); exact HO_0.out) hb); have n1_ := Aside0.mk (Kd.R_below (by (with_reducible repeat (first | apply Kd.R_alloc | apply Kd.R_drewN | apply Kd.R_drew)); exact HO156.out) hb); have n2_ := Aside0.mk (below_step (by repeat (first | (with_reducible first | exact HB.out | apply below_alloc | apply pw_below_drewN | apply below_drew1) | exact HB.out)) hb); have n3_ := Aside0.mk (hbox); have n4_ := Aside0.mk ((by rw [hg]; exact (below_size (by repeat (first | (with_reducible first | exact HB.out | apply below_alloc | apply pw_below_drewN | apply below_drew1) | exact HB.out))) : w.heap.size ≤ gb158)); have n5_ := Aside0.mk ((by rw [hg]; exact (below_size (by repeat (first | (with_reducible first | exact HB.out | apply below_alloc | apply pw_below_drewN | apply below_drew1) | exact HB.out))) : w.heap.size ≤ gb158)); clear HO_0; clear HO156; clear HB; have HO_0 := n0_; have HO156 := n1_; have HB := n2_; have BK158 := n3_; have GW158 := n4_; have GE158 := n5_; clear n0_ n1_ n2_ n3_ n4_ n5_; clear hb hbox hg; have hcz35_0 : w34.cell? ⟨gb158, 0, none⟩ = some (.int .i64 0) := (blk_cell BK158.out 0).trans rfl; have hcz35_1 : w34.cell? ⟨gb158, 1, none⟩ = some (.int .i64 0) := (blk_cell BK158.out 1).trans rfl; have hcz35_2 : w34.cell? ⟨gb158, 2, none⟩ = some (.int .i64 0) := (blk_cell BK158.out 2).trans rfl; have hcz35_3 : w34.cell? ⟨gb158, 3, none⟩ = some (.slice none 0 0) := (blk_cell BK158.out 3).trans rfl; have hfz35_0 := blk_frozen BK158.out 0; have hfz35_1 := blk_frozen BK158.out 1; have hfz35_2 := blk_frozen BK158.out 2; have hfz35_3 := blk_frozen BK158.out 3; obtain ⟨Ao36, co36, eo36⟩ := Kd.R_slice HO156.out; subst eo36) | ((with_reducible refine gate_store (t := 67) (p := 9) rfl ?_); refine store_event (t := 67) (p := 9) (v := ?vo_w37) (w1 := ((((w34.setCell ⟨gb158, 0, none⟩ (.int .i64 t151)).setCell ⟨gb158, 1, none⟩ (.int .i64 t152)).setCell ⟨gb158, 2, none⟩ (.int .i64 t153)).setCell ⟨gb158, 3, none⟩ (.slice Ao36 t154.length co36))) ?hg ?ho ?hn ?hr ?_; (case ho => rfl); (case hg => rfl); (case hn => rfl); (case hr => first | (go_simp; done) | (go_simp; rfl)); intro w37 hw; have n0_ : Aside0 (Kd.R (Kd.int .u8) 5 w37 w.heap.size (fun k_ => some k_ ≠ (.slice Ao36 t154.length co36 : Value).ownBlock) (.slice Ao32 x0_8.length co32) x0_8) := ⟨(by rw [hw]; exact (by (with_reducible repeat (first | apply Kd.R_alloc | apply Kd.R_drewN | apply Kd.R_drew)); exact Kd.R_mono (Kd.R_far (p := ⟨gb158, 3, none⟩) (Kd.R_far (p := ⟨gb158, 2, none⟩) (Kd.R_far (p := ⟨gb158, 1, none⟩) (Kd.R_far (p := ⟨gb158, 0, none⟩) (Kd.R_types HO_0.out BK158.out (by decide)) (fun _ hk => hk.2) (.int .i64 t151)) (fun _ hk => hk.2) (.int .i64 t152)) (fun _ hk => hk.2) (.int .i64 t153)) (fun _ hk => hk.2) (.slice Ao36 t154.length co36)) (fun _ hk => hk.1.2)))⟩; have n1_ : Aside0 (Kd.R (Kd.int .u8) 5 w37 w.heap.size (fun k_ => some k_ ≠ (.slice Ao32 x0_8.length co32 : Value).ownBlock) (.slice Ao36 t154.length co36) t154) := ⟨(by rw [hw]; exact (by (with_reducible repeat (first | apply Kd.R_alloc | apply Kd.R_drewN | apply Kd.R_drew)); exact Kd.R_mono (Kd.R_far (p := ⟨gb158, 3, none⟩) (Kd.R_far (p := ⟨gb158, 2, none⟩) (Kd.R_far (p := ⟨gb158, 1, none⟩) (Kd.R_far (p := ⟨gb158, 0, none⟩) (Kd.R_types HO156.out BK158.out (by decide)) (fun _ hk => hk.2) (.int .i64 t151)) (fun _ hk => hk.2) (.int .i64 t152)) (fun _ hk => hk.2) (.int .i64 t153)) (fun _ hk => hk.2) (.slice Ao36 t154.length co36)) (fun _ hk => hk.1.2)))⟩; have n2_ : Aside0 (w37.heap[gb158]? = some (.cells #[.int .i64 t151, .int .i64 t152, .int .i64 t153, .slice Ao36 t154.length co36] 67 (0, 0))) := ⟨(by rw [hw]; exact (by (with_reducible repeat (first | refine blk_drewN ?_ _ | refine blk_drew ?_ | refine blk_alloc ?_ _)); refine blk_put (cs := #[.int .i64 t151, .int .i64 t152, .int .i64 t153, .slice none 0 0]) ?_ 3 _ rfl; (with_reducible repeat (first | refine blk_drewN ?_ _ | refine blk_drew ?_ | refine blk_alloc ?_ _)); refine blk_put (cs := #[.int .i64 t151, .int .i64 t152, .int .i64 0, .slice none 0 0]) ?_ 2 _ rfl; (with_reducible repeat (first | refine blk_drewN ?_ _ | refine blk_drew ?_ | refine blk_alloc ?_ _)); refine blk_put (cs := #[.int .i64 t151, .int .i64 0, .int .i64 0, .slice none 0 0]) ?_ 1 _ rfl; (with_reducible repeat (first | refine blk_drewN ?_ _ | refine blk_drew ?_ | refine blk_alloc ?_ _)); refine blk_put (cs := #[.int .i64 0, .int .i64 0, .int .i64 0, .slice none 0 0]) ?_ 0 _ rfl; (with_reducible repeat (first | refine blk_drewN ?_ _ | refine blk_drew ?_ | refine blk_alloc ?_ _)); exact BK158.out))⟩; have n3_ : Aside0 (Below w.heap.size w w37) := ⟨(by rw [hw]; exact (by repeat (first | (with_reducible first | exact HB.out | apply below_alloc | apply pw_below_drewN | apply below_drew1 | refine below_set ?_ GE158.out) | exact HB.out)))⟩; clear hw; clear HO_0; clear HO156; clear BK158; clear HB; have HO_0 := n0_; have HO156 := n1_; have BK158 := n2_; have HB := n3_; clear n0_ n1_ n2_ n3_) | ((with_reducible refine gate_callee (f := 46) rfl ?_); refine goesL_ (some 43) rfl rfl Try.func46 (by kernel_rfl) rfl #[.slice Ao32 x0_8.length co32] rfl (by (try simp only [List.map_toArray, List.map_cons, List.map_nil]); first | done | rfl | (simp only [List.length_drop, List.length_take]; rfl)) ?_; (with_reducible refine (incipitref04_Decode.calls (fun k_ => some k_ = (.slice Ao32 x0_8.length co32 : Value).ownBlock) _ _ x0_8 t159 t160 t161 t162 t165 _ ?side1 A27.out).mono ?_); (case side1 => exact Kd.R_V (Kd.R_tight rfl (Kd.R_types (HO_0.out) BK158.out (by decide)))); rintro e w38 ⟨v163, rfl, ho0, hb⟩; refine ⟨_, rfl, ?_⟩; have n0_ := Aside0.mk (Kd.R_below (by (with_reducible repeat (first | apply Kd.R_alloc | apply Kd.R_drewN | apply Kd.R_drew)); exact HO_0.out) hb); have n1_ := Aside0.mk (Kd.R_below (by (with_reducible repeat (first | apply Kd.R_alloc | apply Kd.R_drewN | apply Kd.R_drew)); exact HO156.out) hb); have n2_ := Aside0.mk (Kd.V_lower (Kd.V_mono (ok' := fun k_ => some k_ ≠ (.slice Ao36 t154.length co36 : Value).ownBlock ∧ k_ ≠ gb158) ho0 (fun k_ hk_ => ⟨Or.elim hk_ (fun hs_ => ((Kd.R_types (HO_0.out) BK158.out (by decide)).1 k_ hs_.symm).1) (fun hn_ => (Kd.fresh' (Kd.R_lt (by (with_reducible repeat (first | apply Kd.R_alloc | apply Kd.R_drewN | apply Kd.R_drew)); exact HO156.out)) k_ hn_)), Or.elim hk_ (fun hs_ => ((Kd.R_types (HO_0.out) BK158.out (by decide)).1 k_ hs_.symm).2) (fun hn_ => (Kd.freshB (g := gb158) (o := .cells #[.int .i64 t151, .int .i64 t152, .int .i64 t153, .slice Ao36 t154.length co36] 67 (0, 0)) (by (with_reducible repeat (first | refine blk_drewN ?_ _ | refine blk_drew ?_ | refine blk_alloc ?_ _)); exact BK158.out) k_ hn_))⟩)) (below_size (by repeat (first | (with_reducible first | exact HB.out | apply below_alloc | apply pw_below_drewN | apply below_drew1 | refine below_set ?_ GE158.out) | exact HB.out)))); have n3_ := Aside0.mk (blk_below (g := gb158) (o := .cells #[.int .i64 t151, .int .i64 t152, .int .i64 t153, .slice Ao36 t154.length co36] 67 (0, 0)) (by (with_reducible repeat (first | refine blk_drewN ?_ _ | refine blk_drew ?_ | refine blk_alloc ?_ _)); exact BK158.out) hb); have n4_ := Aside0.mk (below_step (by repeat (first | (with_reducible first | exact HB.out | apply below_alloc | apply pw_below_drewN | apply below_drew1 | refine below_set ?_ GE158.out) | exact HB.out)) hb); clear HO_0; clear HO156; clear BK158; clear HB; have HO_0 := n0_; have HO156 := n1_; have HO164 := n2_; have BK158 := n3_; have HB := n4_; clear n0_ n1_ n2_ n3_ n4_; (try clear hb); (try clear hb2); (try clear hk); (try clear hi); (try clear ho0)) | ((with_reducible refine gate_dst (N := 11) rfl ?_); refine box_event ?hg (N := 11) ?hd (cs := #[.int .i64 0, .int .i64 0, .int .i64 0, .slice none 0 0]) (t := 66) ?hr ?_; (case hd => rfl); (case hg => rfl); (case hr => first | (go_simp; done) | (go_simp; rfl)); intro gb166 hg w39 hbox hb; have n0_ := Aside0.mk (Kd.R_below (by (with_reducible repeat (first | apply Kd.R_alloc | apply Kd.R_drewN | apply Kd.R_drew)); exact HO_0.out) hb); have n1_ := Aside0.mk (Kd.R_below (by (with_reducible repeat (first | apply Kd.R_alloc | apply Kd.R_drewN | apply Kd.R_drew)); exact HO156.out) hb); have n2_ := Aside0.mk (Kd.V_below (Kd.V_elderB (by (with_reducible repeat (first | apply Kd.V_alloc | apply Kd.V_drewN | apply Kd.V_drew)); exact HO164.out) gb166 (Nat.le_of_eq hg.symm)) hb); have n3_ := Aside0.mk (blk_below (g := gb158) (o := .cells #[.int .i64 t151, .int .i64 t152, .int .i64 t153, .slice Ao36 t154.length co36] 67 (0, 0)) (by (with_reducible repeat (first | refine blk_drewN ?_ _ | refine blk_drew ?_ | refine blk_alloc ?_ _)); exact BK158.out) hb); have n4_ := Aside0.mk (below_step (by repeat (first | (with_reducible first | exact HB.out | apply below_alloc | apply pw_below_drewN | apply below_drew1 | refine below_set ?_ GE158.out) | exact HB.out)) hb); have n5_ := Aside0.mk (hbox); have n6_ := Aside0.mk ((by rw [hg]; exact (below_size (by repeat (first | (with_reducible first | exact HB.out | apply below_alloc | apply pw_below_drewN | apply below_drew1 | refine below_set ?_ GE158.out) | exact HB.out))) : w.heap.size ≤ gb166)); have n7_ := Aside0.mk ((by rw [hg]; exact (below_size (by repeat (first | (with_reducible first | exact HB.out | apply below_alloc | apply pw_below_drewN | apply below_drew1 | refine below_set ?_ GE158.out) | exact HB.out))) : w.heap.size ≤ gb166)); have n8_ := Aside0.mk ((by rw [hg]; exact Nat.ne_of_lt (blk_lt (g := gb158) (o := .cells #[.int .i64 t151, .int .i64 t152, .int .i64 t153, .slice Ao36 t154.length co36] 67 (0, 0)) (by (with_reducible repeat (first | refine blk_drewN ?_ _ | refine blk_drew ?_ | refine blk_alloc ?_ _)); exact BK158.out)) : gb158 ≠ gb166)); have n9_ := Aside0.mk ((by rw [hg]; exact Nat.ne_of_gt (blk_lt (g := gb158) (o := .cells #[.int .i64 t151, .int .i64 t152, .int .i64 t153, .slice Ao36 t154.length co36] 67 (0, 0)) (by (with_reducible repeat (first | refine blk_drewN ?_ _ | refine blk_drew ?_ | refine blk_alloc ?_ _)); exact BK158.out)) : gb166 ≠ gb158)); clear HO_0; clear HO156; clear HO164; clear BK158; clear HB; have HO_0 := n0_; have HO156 := n1_; have HO164 := n2_; have BK158 := n3_; have HB := n4_; have BK166 := n5_; have GW166 := n6_; have GE166 := n7_; have NB158_166 := n8_; have NB166_158 := n9_; clear n0_ n1_ n2_ n3_ n4_ n5_ n6_ n7_ n8_ n9_; clear hb hbox hg; have hnb40 := NB166_158.out; have hnc40 := NB158_166.out; have hcz41_0 : w39.cell? ⟨gb166, 0, none⟩ = some (.int .i64 0) := (blk_cell BK166.out 0).trans rfl; have hcz41_1 : w39.cell? ⟨gb166, 1, none⟩ = some (.int .i64 0) := (blk_cell BK166.out 1).trans rfl; have hcz41_2 : w39.cell? ⟨gb166, 2, none⟩ = some (.int .i64 0) := (blk_cell BK166.out 2).trans rfl; have hcz41_3 : w39.cell? ⟨gb166, 3, none⟩ = some (.slice none 0 0) := (blk_cell BK166.out 3).trans rfl; have hfz41_0 := blk_frozen BK166.out 0; have hfz41_1 := blk_frozen BK166.out 1; have hfz41_2 := blk_frozen BK166.out 2; have hfz41_3 := blk_frozen BK166.out 3; obtain ⟨Ao42, co42, eo42⟩ := Kd.V_slice HO164.out; subst eo42) | ((with_reducible refine gate_callee (f := 47) rfl ?_); refine goesL_ (some 50) rfl rfl Try.func47 (by kernel_rfl) rfl #[.slice Ao32 x0_8.length co32, .int .i64 a2, .slice A3 (l3.take ((ji23) : Int).toNat).length c3] rfl (by (try simp only [List.map_toArray, List.map_cons, List.map_nil]); first | done | (rw [show (l3.take ((ji23) : Int).toNat).length = (ji23).toNat from hSL31.out] <;> rfl) | (simp only [hji23]; rfl) | rfl | (simp only [List.length_drop, List.length_take]; rfl)) ?_; (with_reducible refine (frame_Open.calls kj8 _ _ x0_8 a2 _ _ (l3.take ((ji23) : Int).toNat) t167 t168 t169 t170 t173 _ ?side1 ?side2 ?side3 ?side4 A28.out).mono ?_); (case side1 => refine (Kd.R_reads' (e := 5) (base := w.heap.size) (ok := fun k_ => some k_ ≠ (.slice Ao36 t154.length co36 : Value).ownBlock) (n := x0_8.length) (c := co32) ?_).2.2; exact (by (with_reducible repeat (first | apply Kd.R_alloc | apply Kd.R_drewN | apply Kd.R_drew)); exact (Kd.R_mono (Kd.R_far (p := ⟨gb166, 3, none⟩) (Kd.R_far (p := ⟨gb166, 2, none⟩) (Kd.R_far (p := ⟨gb166, 1, none⟩) (Kd.R_far (p := ⟨gb166, 0, none⟩) (Kd.R_types HO_0.out BK166.out (by decide)) (fun _ hk => hk.2) (.int .i64 t159)) (fun _ hk => hk.2) (.int .i64 t160)) (fun _ hk => hk.2) (.int .i64 t161)) (fun _ hk => hk.2) (.slice Ao42 t162.length co42)) (fun _ h_ => h_.1)))); (case side2 => exact (Kd.R_reads' HO_0.out).2.1); (case side3 => exact Kd.C_below HR150.out (by repeat (first | (with_reducible first | exact HB.out | apply below_alloc | apply pw_below_drewN | apply below_drew1 | refine below_set ?_ GE158.out | refine below_set ?_ GE166.out) | exact HB.out))); (case side4 => exact HC150.out); rintro e w43 ⟨v171, rfl, ho0, hb⟩; refine ⟨_, rfl, ?_⟩; have n0_ := Aside0.mk (Kd.R_elder' (by (with_reducible repeat (first | apply Kd.R_alloc | apply Kd.R_drewN | apply Kd.R_drew)); exact (Kd.R_mono (Kd.R_far (p := ⟨gb166, 3, none⟩) (Kd.R_far (p := ⟨gb166, 2, none⟩) (Kd.R_far (p := ⟨gb166, 1, none⟩) (Kd.R_far (p := ⟨gb166, 0, none⟩) (Kd.R_types HO_0.out BK166.out (by decide)) (fun _ hk => hk.2) (.int .i64 t159)) (fun _ hk => hk.2) (.int .i64 t160)) (fun _ hk => hk.2) (.int .i64 t161)) (fun _ hk => hk.2) (.slice Ao42 t162.length co42)) (fun _ h_ => h_.1))) (Kd.R_base ho0) hb); have n1_ := Aside0.mk (Kd.R_elder' (by (with_reducible repeat (first | apply Kd.R_alloc | apply Kd.R_drewN | apply Kd.R_drew)); exact (Kd.R_mono (Kd.R_far (p := ⟨gb166, 3, none⟩) (Kd.R_far (p := ⟨gb166, 2, none⟩) (Kd.R_far (p := ⟨gb166, 1, none⟩) (Kd.R_far (p := ⟨gb166, 0, none⟩) (Kd.R_types HO156.out BK166.out (by decide)) (fun _ hk => hk.2) (.int .i64 t159)) (fun _ hk => hk.2) (.int .i64 t160)) (fun _ hk => hk.2) (.int .i64 t161)) (fun _ hk => hk.2) (.slice Ao42 t162.length co42)) (fun _ h_ => h_.1))) (Kd.R_base ho0) hb); have n2_ := Aside0.mk (Kd.V_elder' (by (with_reducible repeat (first | apply Kd.V_alloc | apply Kd.V_drewN | apply Kd.V_drew)); exact (Kd.V_mono (Kd.V_far (p := ⟨gb166, 3, none⟩) (Kd.V_far (p := ⟨gb166, 2, none⟩) (Kd.V_far (p := ⟨gb166, 1, none⟩) (Kd.V_far (p := ⟨gb166, 0, none⟩) (Kd.V_mono HO164.out (fun k_ hk => (⟨hk, hk.2⟩ : _ ∧ k_ ≠ gb166))) (fun _ hk => hk.2) (.int .i64 t159)) (fun _ hk => hk.2) (.int .i64 t160)) (fun _ hk => hk.2) (.int .i64 t161)) (fun _ hk => hk.2) (.slice Ao42 t162.length co42)) (fun _ h_ => h_.1))) (Kd.R_base ho0) hb); have n3_ := Aside0.mk (Kd.R_lower (Kd.R_new' (Kd.R_new' ho0 (Kd.R_lt (by (with_reducible repeat (first | apply Kd.R_alloc | apply Kd.R_drewN | apply Kd.R_drew)); exact (Kd.R_mono (Kd.R_far (p := ⟨gb166, 3, none⟩) (Kd.R_far (p := ⟨gb166, 2, none⟩) (Kd.R_far (p := ⟨gb166, 1, none⟩) (Kd.R_far (p := ⟨gb166, 0, none⟩) (Kd.R_types HO_0.out BK166.out (by decide)) (fun _ hk => hk.2) (.int .i64 t159)) (fun _ hk => hk.2) (.int .i64 t160)) (fun _ hk => hk.2) (.int .i64 t161)) (fun _ hk => hk.2) (.slice Ao42 t162.length co42)) (fun _ h_ => h_.1))))) (Kd.R_lt (by (with_reducible repeat (first | apply Kd.R_alloc | apply Kd.R_drewN | apply Kd.R_drew)); exact (Kd.R_mono (Kd.R_far (p := ⟨gb166, 3, none⟩) (Kd.R_far (p := ⟨gb166, 2, none⟩) (Kd.R_far (p := ⟨gb166, 1, none⟩) (Kd.R_far (p := ⟨gb166, 0, none⟩) (Kd.R_types HO156.out BK166.out (by decide)) (fun _ hk => hk.2) (.int .i64 t159)) (fun _ hk => hk.2) (.int .i64 t160)) (fun _ hk => hk.2) (.int .i64 t161)) (fun _ hk => hk.2) (.slice Ao42 t162.length co42)) (fun _ h_ => h_.1))))) (below_size (by repeat (first | (with_reducible first | exact HB.out | apply below_alloc | apply pw_below_drewN | apply below_drew1 | refine below_set ?_ GE158.out | refine below_set ?_ GE166.out) | exact HB.out)))); have n4_ := Aside0.mk (blk_below (g := gb158) (o := .cells #[.int .i64 t151, .int .i64 t152, .int .i64 t153, .slice Ao36 t154.length co36] 67 (0, 0)) (by (with_reducible repeat (first | refine blk_drewN ?_ _ | refine blk_drew ?_ | refine blk_alloc ?_ _)); refine blk_far ?_ NB158_166.out _; (with_reducible repeat (first | refine blk_drewN ?_ _ | refine blk_drew ?_ | refine blk_alloc ?_ _)); refine blk_far ?_ NB158_166.out _; (with_reducible repeat (first | refine blk_drewN ?_ _ | refine blk_drew ?_ | refine blk_alloc ?_ _)); refine blk_far ?_ NB158_166.out _; (with_reducible repeat (first | refine blk_drewN ?_ _ | refine blk_drew ?_ | refine blk_alloc ?_ _)); refine blk_far ?_ NB158_166.out _; (with_reducible repeat (first | refine blk_drewN ?_ _ | refine blk_drew ?_ | refine blk_alloc ?_ _)); exact BK158.out) hb); have n5_ := Aside0.mk (blk_below (g := gb166) (o := .cells #[.int .i64 t159, .int .i64 t160, .int .i64 t161, .slice Ao42 t162.length co42] 66 (0, 0)) (by (with_reducible repeat (first | refine blk_drewN ?_ _ | refine blk_drew ?_ | refine blk_alloc ?_ _)); refine blk_put (cs := #[.int .i64 t159, .int .i64 t160, .int .i64 t161, .slice none 0 0]) ?_ 3 _ rfl; (with_reducible repeat (first | refine blk_drewN ?_ _ | refine blk_drew ?_ | refine blk_alloc ?_ _)); refine blk_put (cs := #[.int .i64 t159, .int .i64 t160, .int .i64 0, .slice none 0 0]) ?_ 2 _ rfl; (with_reducible repeat (first | refine blk_drewN ?_ _ | refine blk_drew ?_ | refine blk_alloc ?_ _)); refine blk_put (cs := #[.int .i64 t159, .int .i64 0, .int .i64 0, .slice none 0 0]) ?_ 1 _ rfl; (with_reducible repeat (first | refine blk_drewN ?_ _ | refine blk_drew ?_ | refine blk_alloc ?_ _)); refine blk_put (cs := #[.int .i64 0, .int .i64 0, .int .i64 0, .slice none 0 0]) ?_ 0 _ rfl; (with_reducible repeat (first | refine blk_drewN ?_ _ | refine blk_drew ?_ | refine blk_alloc ?_ _)); exact BK166.out) hb); have n6_ := Aside0.mk (below_step (by repeat (first | (with_reducible first | exact HB.out | apply below_alloc | apply pw_below_drewN | apply below_drew1 | refine below_set ?_ GE158.out | refine below_set ?_ GE166.out) | exact HB.out)) hb); clear HO_0; clear HO156; clear HO164; clear BK158; clear BK166; clear HB; have HO_0 := n0_; have HO156 := n1_; have HO164 := n2_; have HO172 := n3_; have BK158 := n4_; have BK166 := n5_; have HB := n6_; clear n0_ n1_ n2_ n3_ n4_ n5_ n6_; (try clear hb); (try clear hb2); (try clear hk); (try clear hi); (try clear ho0)) | ((with_reducible refine gate_dst (N := 13) rfl ?_); refine box_event ?hg (N := 13) ?hd (cs := #[.int .i64 0, .int .i64 0, .int .i64 0, .slice none 0 0]) (t := 67) ?hr ?_; (case hd => rfl); (case hg => rfl); (case hr => first | (go_simp; done) | (go_simp; rfl)); intro gb174 hg w44 hbox hb; have n0_ := Aside0.mk (Kd.R_below (by (with_reducible repeat (first | apply Kd.R_alloc | apply Kd.R_drewN | apply Kd.R_drew)); exact HO_0.out) hb); have n1_ := Aside0.mk (Kd.R_below (by (with_reducible repeat (first | apply Kd.R_alloc | apply Kd.R_drewN | apply Kd.R_drew)); exact HO156.out) hb); have n2_ := Aside0.mk (Kd.V_below (Kd.V_elderB (by (with_reducible repeat (first | apply Kd.V_alloc | apply Kd.V_drewN | apply Kd.V_drew)); exact HO164.out) gb174 (Nat.le_of_eq hg.symm)) hb); have n3_ := Aside0.mk (Kd.R_below (by (with_reducible repeat (first | apply Kd.R_alloc | apply Kd.R_drewN | apply Kd.R_drew)); exact HO172.out) hb); have n4_ := Aside0.mk (blk_below (g := gb158) (o := .cells #[.int .i64 t151, .int .i64 t152, .int .i64 t153, .slice Ao36 t154.length co36] 67 (0, 0)) (by (with_reducible repeat (first | refine blk_drewN ?_ _ | refine blk_drew ?_ | refine blk_alloc ?_ _)); exact BK158.out) hb); have n5_ := Aside0.mk (blk_below (g := gb166) (o := .cells #[.int .i64 t159, .int .i64 t160, .int .i64 t161, .slice Ao42 t162.length co42] 66 (0, 0)) (by (with_reducible repeat (first | refine blk_drewN ?_ _ | refine blk_drew ?_ | refine blk_alloc ?_ _)); exact BK166.out) hb); have n6_ := Aside0.mk (below_step (by repeat (first | (with_reducible first | exact HB.out | apply below_alloc | apply pw_below_drewN | apply below_drew1 | refine below_set ?_ GE158.out | refine below_set ?_ GE166.out) | exact HB.out)) hb); have n7_ := Aside0.mk (hbox); have n8_ := Aside0.mk ((by rw [hg]; exact (below_size (by repeat (first | (with_reducible first | exact HB.out | apply below_alloc | apply pw_below_drewN | apply below_drew1 | refine below_set ?_ GE158.out | refine below_set ?_ GE166.out) | exact HB.out))) : w.heap.size ≤ gb174)); have n9_ := Aside0.mk ((by rw [hg]; exact (below_size (by repeat (first | (with_reducible first | exact HB.out | apply below_alloc | apply pw_below_drewN | apply below_drew1 | refine below_set ?_ GE158.out | refine below_set ?_ GE166.out) | exact HB.out))) : w.heap.size ≤ gb174)); have n10_ := Aside0.mk ((by rw [hg]; exact Nat.ne_of_lt (blk_lt (g := gb158) (o := .cells #[.int .i64 t151, .int .i64 t152, .int .i64 t153, .slice Ao36 t154.length co36] 67 (0, 0)) (by (with_reducible repeat (first | refine blk_drewN ?_ _ | refine blk_drew ?_ | refine blk_alloc ?_ _)); exact BK158.out)) : gb158 ≠ gb174)); have n11_ := Aside0.mk ((by rw [hg]; exact Nat.ne_of_gt (blk_lt (g := gb158) (o := .cells #[.int .i64 t151, .int .i64 t152, .int .i64 t153, .slice Ao36 t154.length co36] 67 (0, 0)) (by (with_reducible repeat (first | refine blk_drewN ?_ _ | refine blk_drew ?_ | refine blk_alloc ?_ _)); exact BK158.out)) : gb174 ≠ gb158)); have n12_ := Aside0.mk ((by rw [hg]; exact Nat.ne_of_lt (blk_lt (g := gb166) (o := .cells #[.int .i64 t159, .int .i64 t160, .int .i64 t161, .slice Ao42 t162.length co42] 66 (0, 0)) (by (with_reducible repeat (first | refine blk_drewN ?_ _ | refine blk_drew ?_ | refine blk_alloc ?_ _)); exact BK166.out)) : gb166 ≠ gb174)); have n13_ := Aside0.mk ((by rw [hg]; exact Nat.ne_of_gt (blk_lt (g := gb166) (o := .cells #[.int .i64 t159, .int .i64 t160, .int .i64 t161, .slice Ao42 t162.length co42] 66 (0, 0)) (by (with_reducible repeat (first | refine blk_drewN ?_ _ | refine blk_drew ?_ | refine blk_alloc ?_ _)); exact BK166.out)) : gb174 ≠ gb166)); clear HO_0; clear HO156; clear HO164; clear HO172; clear BK158; clear BK166; clear HB; have HO_0 := n0_; have HO156 := n1_; have HO164 := n2_; have HO172 := n3_; have BK158 := n4_; have BK166 := n5_; have HB := n6_; have BK174 := n7_; have GW174 := n8_; have GE174 := n9_; have NB158_174 := n10_; have NB174_158 := n11_; have NB166_174 := n12_; have NB174_166 := n13_; clear n0_ n1_ n2_ n3_ n4_ n5_ n6_ n7_ n8_ n9_ n10_ n11_ n12_ n13_; clear hb hbox hg; have hnb45 := NB174_158.out; have hnc45 := NB158_174.out; have hnb46 := NB174_166.out; have hnc46 := NB166_174.out; have hcz47_0 : w44.cell? ⟨gb174, 0, none⟩ = some (.int .i64 0) := (blk_cell BK174.out 0).trans rfl; have hcz47_1 : w44.cell? ⟨gb174, 1, none⟩ = some (.int .i64 0) := (blk_cell BK174.out 1).trans rfl; have hcz47_2 : w44.cell? ⟨gb174, 2, none⟩ = some (.int .i64 0) := (blk_cell BK174.out 2).trans rfl; have hcz47_3 : w44.cell? ⟨gb174, 3, none⟩ = some (.slice none 0 0) := (blk_cell BK174.out 3).trans rfl; have hfz47_0 := blk_frozen BK174.out 0; have hfz47_1 := blk_frozen BK174.out 1; have hfz47_2 := blk_frozen BK174.out 2; have hfz47_3 := blk_frozen BK174.out 3; obtain ⟨Ao48, co48, eo48⟩ := Kd.R_slice HO172.out; subst eo48) | ((with_reducible refine gate_store (t := 67) (p := 13) rfl ?_); refine store_event (t := 67) (p := 13) (v := ?vo_w49) (w1 := ((((w44.setCell ⟨gb174, 0, none⟩ (.int .i64 t167)).setCell ⟨gb174, 1, none⟩ (.int .i64 t168)).setCell ⟨gb174, 2, none⟩ (.int .i64 t169)).setCell ⟨gb174, 3, none⟩ (.slice Ao48 t170.length co48))) ?hg ?ho ?hn ?hr ?_; (case ho => rfl); (case hg => rfl); (case hn => rfl); (case hr => first | (go_simp; done) | (go_simp; rfl)); intro w49 hw; have n0_ : Aside0 (Kd.R (Kd.int .u8) 5 w49 w.heap.size (fun k_ => some k_ ≠ (.slice Ao36 t154.length co36 : Value).ownBlock ∧ some k_ ≠ (.slice Ao48 t170.length co48 : Value).ownBlock) (.slice Ao32 x0_8.length co32) x0_8) := ⟨(by rw [hw]; exact (by (with_reducible repeat (first | apply Kd.R_alloc | apply Kd.R_drewN | apply Kd.R_drew)); exact Kd.R_mono (Kd.R_far (p := ⟨gb174, 3, none⟩) (Kd.R_far (p := ⟨gb174, 2, none⟩) (Kd.R_far (p := ⟨gb174, 1, none⟩) (Kd.R_far (p := ⟨gb174, 0, none⟩) (Kd.R_types HO_0.out BK174.out (by decide)) (fun _ hk => hk.2) (.int .i64 t167)) (fun _ hk => hk.2) (.int .i64 t168)) (fun _ hk => hk.2) (.int .i64 t169)) (fun _ hk => hk.2) (.slice Ao48 t170.length co48)) (fun _ hk => ⟨hk.1.1, hk.1.2⟩)))⟩; have n1_ : Aside0 (Kd.R (Kd.int .u8) 5 w49 w.heap.size (fun k_ => some k_ ≠ (.slice Ao32 x0_8.length co32 : Value).ownBlock ∧ some k_ ≠ (.slice Ao48 t170.length co48 : Value).ownBlock) (.slice Ao36 t154.length co36) t154) := ⟨(by rw [hw]; exact (by (with_reducible repeat (first | apply Kd.R_alloc | apply Kd.R_drewN | apply Kd.R_drew)); exact Kd.R_mono (Kd.R_far (p := ⟨gb174, 3, none⟩) (Kd.R_far (p := ⟨gb174, 2, none⟩) (Kd.R_far (p := ⟨gb174, 1, none⟩) (Kd.R_far (p := ⟨gb174, 0, none⟩) (Kd.R_types HO156.out BK174.out (by decide)) (fun _ hk => hk.2) (.int .i64 t167)) (fun _ hk => hk.2) (.int .i64 t168)) (fun _ hk => hk.2) (.int .i64 t169)) (fun _ hk => hk.2) (.slice Ao48 t170.length co48)) (fun _ hk => ⟨hk.1.1, hk.1.2⟩)))⟩; have n2_ : Aside0 (Kd.V (Kd.int .u8) 5 w49 w.heap.size (fun k_ => some k_ ≠ (.slice Ao36 t154.length co36 : Value).ownBlock ∧ some k_ ≠ (.slice Ao48 t170.length co48 : Value).ownBlock ∧ k_ ≠ gb158 ∧ k_ ≠ gb166 ∧ k_ ≠ gb174) (.slice Ao42 t162.length co42) t162) := ⟨(by rw [hw]; exact (by (with_reducible repeat (first | apply Kd.V_alloc | apply Kd.V_drewN | apply Kd.V_drew)); exact Kd.V_mono (Kd.V_far (p := ⟨gb174, 3, none⟩) (Kd.V_far (p := ⟨gb174, 2, none⟩) (Kd.V_far (p := ⟨gb174, 1, none⟩) (Kd.V_far (p := ⟨gb174, 0, none⟩) (Kd.V_mono HO164.out (fun k_ hk => (⟨hk, hk.2⟩ : _ ∧ k_ ≠ gb174))) (fun _ hk => hk.2) (.int .i64 t167)) (fun _ hk => hk.2) (.int .i64 t168)) (fun _ hk => hk.2) (.int .i64 t169)) (fun _ hk => hk.2) (.slice Ao48 t170.length co48)) (fun _ hk => ⟨hk.1.1.1.1.1, ⟨hk.1.1.2, ⟨hk.1.1.1.1.2, ⟨hk.1.1.1.2, hk.1.2⟩⟩⟩⟩)))⟩; have n3_ : Aside0 (Kd.R (Kd.int .u8) 5 w49 w.heap.size (fun k_ => some k_ ≠ (.slice Ao32 x0_8.length co32 : Value).ownBlock ∧ some k_ ≠ (.slice Ao36 t154.length co36 : Value).ownBlock) (.slice Ao48 t170.length co48) t170) := ⟨(by rw [hw]; exact (by (with_reducible repeat (first | apply Kd.R_alloc | apply Kd.R_drewN | apply Kd.R_drew)); exact Kd.R_mono (Kd.R_far (p := ⟨gb174, 3, none⟩) (Kd.R_far (p := ⟨gb174, 2, none⟩) (Kd.R_far (p := ⟨gb174, 1, none⟩) (Kd.R_far (p := ⟨gb174, 0, none⟩) (Kd.R_types HO172.out BK174.out (by decide)) (fun _ hk => hk.2) (.int .i64 t167)) (fun _ hk => hk.2) (.int .i64 t168)) (fun _ hk => hk.2) (.int .i64 t169)) (fun _ hk => hk.2) (.slice Ao48 t170.length co48)) (fun _ hk => ⟨hk.1.1.2, hk.1.2⟩)))⟩; have n4_ : Aside0 (w49.heap[gb158]? = some (.cells #[.int .i64 t151, .int .i64 t152, .int .i64 t153, .slice Ao36 t154.length co36] 67 (0, 0))) := ⟨(by rw [hw]; exact (by (with_reducible repeat (first | refine blk_drewN ?_ _ | refine blk_drew ?_ | refine blk_alloc ?_ _)); refine blk_far ?_ NB158_174.out _; (with_reducible repeat (first | refine blk_drewN ?_ _ | refine blk_drew ?_ | refine blk_alloc ?_ _)); refine blk_far ?_ NB158_174.out _; (with_reducible repeat (first | refine blk_drewN ?_ _ | refine blk_drew ?_ | refine blk_alloc ?_ _)); refine blk_far ?_ NB158_174.out _; (with_reducible repeat (first | refine blk_drewN ?_ _ | refine blk_drew ?_ | refine blk_alloc ?_ _)); refine blk_far ?_ NB158_174.out _; (with_reducible repeat (first | refine blk_drewN ?_ _ | refine blk_drew ?_ | refine blk_alloc ?_ _)); exact BK158.out))⟩; have n5_ : Aside0 (w49.heap[gb166]? = some (.cells #[.int .i64 t159, .int .i64 t160, .int .i64 t161, .slice Ao42 t162.length co42] 66 (0, 0))) := ⟨(by rw [hw]; exact (by (with_reducible repeat (first | refine blk_drewN ?_ _ | refine blk_drew ?_ | refine blk_alloc ?_ _)); refine blk_far ?_ NB166_174.out _; (with_reducible repeat (first | refine blk_drewN ?_ _ | refine blk_drew ?_ | refine blk_alloc ?_ _)); refine blk_far ?_ NB166_174.out _; (with_reducible repeat (first | refine blk_drewN ?_ _ | refine blk_drew ?_ | refine blk_alloc ?_ _)); refine blk_far ?_ NB166_174.out _; (with_reducible repeat (first | refine blk_drewN ?_ _ | refine blk_drew ?_ | refine blk_alloc ?_ _)); refine blk_far ?_ NB166_174.out _; (with_reducible repeat (first | refine blk_drewN ?_ _ | refine blk_drew ?_ | refine blk_alloc ?_ _)); exact BK166.out))⟩; have n6_ : Aside0 (w49.heap[gb174]? = some (.cells #[.int .i64 t167, .int .i64 t168, .int .i64 t169, .slice Ao48 t170.length co48] 67 (0, 0))) := ⟨(by rw [hw]; exact (by (with_reducible repeat (first | refine blk_drewN ?_ _ | refine blk_drew ?_ | refine blk_alloc ?_ _)); refine blk_put (cs := #[.int .i64 t167, .int .i64 t168, .int .i64 t169, .slice none 0 0]) ?_ 3 _ rfl; (with_reducible repeat (first | refine blk_drewN ?_ _ | refine blk_drew ?_ | refine blk_alloc ?_ _)); refine blk_put (cs := #[.int .i64 t167, .int .i64 t168, .int .i64 0, .slice none 0 0]) ?_ 2 _ rfl; (with_reducible repeat (first | refine blk_drewN ?_ _ | refine blk_drew ?_ | refine blk_alloc ?_ _)); refine blk_put (cs := #[.int .i64 t167, .int .i64 0, .int .i64 0, .slice none 0 0]) ?_ 1 _ rfl; (with_reducible repeat (first | refine blk_drewN ?_ _ | refine blk_drew ?_ | refine blk_alloc ?_ _)); refine blk_put (cs := #[.int .i64 0, .int .i64 0, .int .i64 0, .slice none 0 0]) ?_ 0 _ rfl; (with_reducible repeat (first | refine blk_drewN ?_ _ | refine blk_drew ?_ | refine blk_alloc ?_ _)); exact BK174.out))⟩; have n7_ : Aside0 (Below w.heap.size w w49) := ⟨(by rw [hw]; exact (by repeat (first | (with_reducible first | exact HB.out | apply below_alloc | apply pw_below_drewN | apply below_drew1 | refine below_set ?_ GE158.out | refine below_set ?_ GE166.out | refine below_set ?_ GE174.out) | exact HB.out)))⟩; clear hw; clear HO_0; clear HO156; clear HO164; clear HO172; clear BK158; clear BK166; clear BK174; clear HB; have HO_0 := n0_; have HO156 := n1_; have HO164 := n2_; have HO172 := n3_; have BK158 := n4_; have BK166 := n5_; have BK174 := n6_; have HB := n7_; clear n0_ n1_ n2_ n3_ n4_ n5_ n6_ n7_) | ((with_reducible refine gate_callee (f := 48) rfl ?_); refine goesL_ (some 57) rfl rfl Try.func48 (by kernel_rfl) rfl #[.slice Ao32 x0_8.length co32, .int .i64 a2, .slice A3 (l3.take ((ji23) : Int).toNat).length c3] rfl (by (try simp only [List.map_toArray, List.map_cons, List.map_nil]); first | done | (rw [show (l3.take ((ji23) : Int).toNat).length = (ji23).toNat from hSL31.out] <;> rfl) | (simp only [hji23]; rfl) | rfl | (simp only [List.length_drop, List.length_take]; rfl)) ?_; (with_reducible refine (incipitref04_Open.calls kj8 (fun k_ => some k_ = (.slice Ao32 x0_8.length co32 : Value).ownBlock) _ _ x0_8 a2 _ _ (l3.take ((ji23) : Int).toNat) t175 t176 t177 t178 t181 _ ?side1 ?side2 ?side3 A29.out).mono ?_); (case side1 => exact Kd.R_V (Kd.R_tight rfl (Kd.R_types (Kd.R_types (Kd.R_types (HO_0.out) BK158.out (by decide)) BK166.out (by decide)) BK174.out (by decide)))); (case side2 => repeat (first | exact (Kd.C_below HR150.out HB.out) | (with_reducible refine Kd.C_alloc ?_ _) | (with_reducible refine Kd.C_drewN ?_ _) | (with_reducible refine Kd.C_drew ?_))); (case side3 => exact HC150.out); rintro e w50 ⟨v179, rfl, ho0, hb⟩; refine ⟨_, rfl, ?_⟩; have n0_ := Aside0.mk (Kd.R_below (by (with_reducible repeat (first | apply Kd.R_alloc | apply Kd.R_drewN | apply Kd.R_drew)); exact HO_0.out) hb); have n1_ := Aside0.mk (Kd.R_below (by (with_reducible repeat (first | apply Kd.R_alloc | apply Kd.R_drewN | apply Kd.R_drew)); exact HO156.out) hb); have n2_ := Aside0.mk (Kd.V_below (by (with_reducible repeat (first | apply Kd.V_alloc | apply Kd.V_drewN | apply Kd.V_drew)); exact HO164.out) hb); have n3_ := Aside0.mk (Kd.R_below (by (with_reducible repeat (first | apply Kd.R_alloc | apply Kd.R_drewN | apply Kd.R_drew)); exact HO172.out) hb); have n4_ := Aside0.mk (Kd.V_lower (Kd.V_mono (ok' := fun k_ => some k_ ≠ (.slice Ao36 t154.length co36 : Value).ownBlock ∧ some k_ ≠ (.slice Ao48 t170.length co48 : Value).ownBlock ∧ k_ ≠ gb158 ∧ k_ ≠ gb166 ∧ k_ ≠ gb174) ho0 (fun k_ hk_ => ⟨Or.elim hk_ (fun hs_ => ((Kd.R_types (Kd.R_types (Kd.R_types (HO_0.out) BK158.out (by decide)) BK166.out (by decide)) BK174.out (by decide)).1 k_ hs_.symm).1.1.1.1) (fun hn_ => (Kd.fresh' (Kd.R_lt (by (with_reducible repeat (first | apply Kd.R_alloc | apply Kd.R_drewN | apply Kd.R_drew)); exact HO156.out)) k_ hn_)), Or.elim hk_ (fun hs_ => ((Kd.R_types (Kd.R_types (Kd.R_types (HO_0.out) BK158.out (by decide)) BK166.out (by decide)) BK174.out (by decide)).1 k_ hs_.symm).1.1.1.2) (fun hn_ => (Kd.fresh' (Kd.R_lt (by (with_reducible repeat (first | apply Kd.R_alloc | apply Kd.R_drewN | apply Kd.R_drew)); exact HO172.out)) k_ hn_)), Or.elim hk_ (fun hs_ => ((Kd.R_types (Kd.R_types (Kd.R_types (HO_0.out) BK158.out (by decide)) BK166.out (by decide)) BK174.out (by decide)).1 k_ hs_.symm).1.1.2) (fun hn_ => (Kd.freshB (g := gb158) (o := .cells #[.int .i64 t151, .int .i64 t152, .int .i64 t153, .slice Ao36 t154.length co36] 67 (0, 0)) (by (with_reducible repeat (first | refine blk_drewN ?_ _ | refine blk_drew ?_ | refine blk_alloc ?_ _)); exact BK158.out) k_ hn_)), Or.elim hk_ (fun hs_ => ((Kd.R_types (Kd.R_types (Kd.R_types (HO_0.out) BK158.out (by decide)) BK166.out (by decide)) BK174.out (by decide)).1 k_ hs_.symm).1.2) (fun hn_ => (Kd.freshB (g := gb166) (o := .cells #[.int .i64 t159, .int .i64 t160, .int .i64 t161, .slice Ao42 t162.length co42] 66 (0, 0)) (by (with_reducible repeat (first | refine blk_drewN ?_ _ | refine blk_drew ?_ | refine blk_alloc ?_ _)); exact BK166.out) k_ hn_)), Or.elim hk_ (fun hs_ => ((Kd.R_types (Kd.R_types (Kd.R_types (HO_0.out) BK158.out (by decide)) BK166.out (by decide)) BK174.out (by decide)).1 k_ hs_.symm).2) (fun hn_ => (Kd.freshB (g := gb174) (o := .cells #[.int .i64 t167, .int .i64 t168, .int .i64 t169, .slice Ao48 t170.length co48] 67 (0, 0)) (by (with_reducible repeat (first | refine blk_drewN ?_ _ | refine blk_drew ?_ | refine blk_alloc ?_ _)); exact BK174.out) k_ hn_))⟩)) (below_size (by repeat (first | (with_reducible first | exact HB.out | apply below_alloc | apply pw_below_drewN | apply below_drew1 | refine below_set ?_ GE158.out | refine below_set ?_ GE166.out | refine below_set ?_ GE174.out) | exact HB.out)))); have n5_ := Aside0.mk (blk_below (g := gb158) (o := .cells #[.int .i64 t151, .int .i64 t152, .int .i64 t153, .slice Ao36 t154.length co36] 67 (0, 0)) (by (with_reducible repeat (first | refine blk_drewN ?_ _ | refine blk_drew ?_ | refine blk_alloc ?_ _)); exact BK158.out) hb); have n6_ := Aside0.mk (blk_below (g := gb166) (o := .cells #[.int .i64 t159, .int .i64 t160, .int .i64 t161, .slice Ao42 t162.length co42] 66 (0, 0)) (by (with_reducible repeat (first | refine blk_drewN ?_ _ | refine blk_drew ?_ | refine blk_alloc ?_ _)); exact BK166.out) hb); have n7_ := Aside0.mk (blk_below (g := gb174) (o := .cells #[.int .i64 t167, .int .i64 t168, .int .i64 t169, .slice Ao48 t170.length co48] 67 (0, 0)) (by (with_reducible repeat (first | refine blk_drewN ?_ _ | refine blk_drew ?_ | refine blk_alloc ?_ _)); exact BK174.out) hb); have n8_ := Aside0.mk (below_step (by repeat (first | (with_reducible first | exact HB.out | apply below_alloc | apply pw_below_drewN | apply below_drew1 | refine below_set ?_ GE158.out | refine below_set ?_ GE166.out | refine below_set ?_ GE174.out) | exact HB.out)) hb); clear HO_0; clear HO156; clear HO164; clear HO172; clear BK158; clear BK166; clear BK174; clear HB; have HO_0 := n0_; have HO156 := n1_; have HO164 := n2_; have HO172 := n3_; have HO180 := n4_; have BK158 := n5_; have BK166 := n6_; have BK174 := n7_; have HB := n8_; clear n0_ n1_ n2_ n3_ n4_ n5_ n6_ n7_ n8_; (try clear hb); (try clear hb2); (try clear hk); (try clear hi); (try clear ho0)) | ((with_reducible refine gate_dst (N := 15) rfl ?_); refine box_event ?hg (N := 15) ?hd (cs := #[.int .i64 0, .int .i64 0, .int .i64 0, .slice none 0 0]) (t := 66) ?hr ?_; (case hd => rfl); (case hg => rfl); (case hr => first | (go_simp; done) | (go_simp; rfl)); intro gb182 hg w51 hbox hb; have n0_ := Aside0.mk (Kd.R_below (by (with_reducible repeat (first | apply Kd.R_alloc | apply Kd.R_drewN | apply Kd.R_drew)); exact HO_0.out) hb); have n1_ := Aside0.mk (Kd.R_below (by (with_reducible repeat (first | apply Kd.R_alloc | apply Kd.R_drewN | apply Kd.R_drew)); exact HO156.out) hb); have n2_ := Aside0.mk (Kd.V_below (Kd.V_elderB (by (with_reducible repeat (first | apply Kd.V_alloc | apply Kd.V_drewN | apply Kd.V_drew)); exact HO164.out) gb182 (Nat.le_of_eq hg.symm)) hb); have n3_ := Aside0.mk (Kd.R_below (by (with_reducible repeat (first | apply Kd.R_alloc | apply Kd.R_drewN | apply Kd.R_drew)); exact HO172.out) hb); have n4_ := Aside0.mk (Kd.V_below (Kd.V_elderB (by (with_reducible repeat (first | apply Kd.V_alloc | apply Kd.V_drewN | apply Kd.V_drew)); exact HO180.out) gb182 (Nat.le_of_eq hg.symm)) hb); have n5_ := Aside0.mk (blk_below (g := gb158) (o := .cells #[.int .i64 t151, .int .i64 t152, .int .i64 t153, .slice Ao36 t154.length co36] 67 (0, 0)) (by (with_reducible repeat (first | refine blk_drewN ?_ _ | refine blk_drew ?_ | refine blk_alloc ?_ _)); exact BK158.out) hb); have n6_ := Aside0.mk (blk_below (g := gb166) (o := .cells #[.int .i64 t159, .int .i64 t160, .int .i64 t161, .slice Ao42 t162.length co42] 66 (0, 0)) (by (with_reducible repeat (first | refine blk_drewN ?_ _ | refine blk_drew ?_ | refine blk_alloc ?_ _)); exact BK166.out) hb); have n7_ := Aside0.mk (blk_below (g := gb174) (o := .cells #[.int .i64 t167, .int .i64 t168, .int .i64 t169, .slice Ao48 t170.length co48] 67 (0, 0)) (by (with_reducible repeat (first | refine blk_drewN ?_ _ | refine blk_drew ?_ | refine blk_alloc ?_ _)); exact BK174.out) hb); have n8_ := Aside0.mk (below_step (by repeat (first | (with_reducible first | exact HB.out | apply below_alloc | apply pw_below_drewN | apply below_drew1 | refine below_set ?_ GE158.out | refine below_set ?_ GE166.out | refine below_set ?_ GE174.out) | exact HB.out)) hb); have n9_ := Aside0.mk (hbox); have n10_ := Aside0.mk ((by rw [hg]; exact (below_size (by repeat (first | (with_reducible first | exact HB.out | apply below_alloc | apply pw_below_drewN | apply below_drew1 | refine below_set ?_ GE158.out | refine below_set ?_ GE166.out | refine below_set ?_ GE174.out) | exact HB.out))) : w.heap.size ≤ gb182)); have n11_ := Aside0.mk ((by rw [hg]; exact (below_size (by repeat (first | (with_reducible first | exact HB.out | apply below_alloc | apply pw_below_drewN | apply below_drew1 | refine below_set ?_ GE158.out | refine below_set ?_ GE166.out | refine below_set ?_ GE174.out) | exact HB.out))) : w.heap.size ≤ gb182)); have n12_ := Aside0.mk ((by rw [hg]; exact Nat.ne_of_lt (blk_lt (g := gb158) (o := .cells #[.int .i64 t151, .int .i64 t152, .int .i64 t153, .slice Ao36 t154.length co36] 67 (0, 0)) (by (with_reducible repeat (first | refine blk_drewN ?_ _ | refine blk_drew ?_ | refine blk_alloc ?_ _)); exact BK158.out)) : gb158 ≠ gb182)); have n13_ := Aside0.mk ((by rw [hg]; exact Nat.ne_of_gt (blk_lt (g := gb158) (o := .cells #[.int .i64 t151, .int .i64 t152, .int .i64 t153, .slice Ao36 t154.length co36] 67 (0, 0)) (by (with_reducible repeat (first | refine blk_drewN ?_ _ | refine blk_drew ?_ | refine blk_alloc ?_ _)); exact BK158.out)) : gb182 ≠ gb158)); have n14_ := Aside0.mk ((by rw [hg]; exact Nat.ne_of_lt (blk_lt (g := gb166) (o := .cells #[.int .i64 t159, .int .i64 t160, .int .i64 t161, .slice Ao42 t162.length co42] 66 (0, 0)) (by (with_reducible repeat (first | refine blk_drewN ?_ _ | refine blk_drew ?_ | refine blk_alloc ?_ _)); exact BK166.out)) : gb166 ≠ gb182)); have n15_ := Aside0.mk ((by rw [hg]; exact Nat.ne_of_gt (blk_lt (g := gb166) (o := .cells #[.int .i64 t159, .int .i64 t160, .int .i64 t161, .slice Ao42 t162.length co42] 66 (0, 0)) (by (with_reducible repeat (first | refine blk_drewN ?_ _ | refine blk_drew ?_ | refine blk_alloc ?_ _)); exact BK166.out)) : gb182 ≠ gb166)); have n16_ := Aside0.mk ((by rw [hg]; exact Nat.ne_of_lt (blk_lt (g := gb174) (o := .cells #[.int .i64 t167, .int .i64 t168, .int .i64 t169, .slice Ao48 t170.length co48] 67 (0, 0)) (by (with_reducible repeat (first | refine blk_drewN ?_ _ | refine blk_drew ?_ | refine blk_alloc ?_ _)); exact BK174.out)) : gb174 ≠ gb182)); have n17_ := Aside0.mk ((by rw [hg]; exact Nat.ne_of_gt (blk_lt (g := gb174) (o := .cells #[.int .i64 t167, .int .i64 t168, .int .i64 t169, .slice Ao48 t170.length co48] 67 (0, 0)) (by (with_reducible repeat (first | refine blk_drewN ?_ _ | refine blk_drew ?_ | refine blk_alloc ?_ _)); exact BK174.out)) : gb182 ≠ gb174)); clear HO_0; clear HO156; clear HO164; clear HO172; clear HO180; clear BK158; clear BK166; clear BK174; clear HB; have HO_0 := n0_; have HO156 := n1_; have HO164 := n2_; have HO172 := n3_; have HO180 := n4_; have BK158 := n5_; have BK166 := n6_; have BK174 := n7_; have HB := n8_; have BK182 := n9_; have GW182 := n10_; have GE182 := n11_; have NB158_182 := n12_; have NB182_158 := n13_; have NB166_182 := n14_; have NB182_166 := n15_; have NB174_182 := n16_; have NB182_174 := n17_; clear n0_ n1_ n2_ n3_ n4_ n5_ n6_ n7_ n8_ n9_ n10_ n11_ n12_ n13_ n14_ n15_ n16_ n17_; clear hb hbox hg; have hnb52 := NB182_158.out; have hnc52 := NB158_182.out; have hnb53 := NB182_166.out; have hnc53 := NB166_182.out; have hnb54 := NB182_174.out; have hnc54 := NB174_182.out; have hcz55_0 : w51.cell? ⟨gb182, 0, none⟩ = some (.int .i64 0) := (blk_cell BK182.out 0).trans rfl; have hcz55_1 : w51.cell? ⟨gb182, 1, none⟩ = some (.int .i64 0) := (blk_cell BK182.out 1).trans rfl; have hcz55_2 : w51.cell? ⟨gb182, 2, none⟩ = some (.int .i64 0) := (blk_cell BK182.out 2).trans rfl; have hcz55_3 : w51.cell? ⟨gb182, 3, none⟩ = some (.slice none 0 0) := (blk_cell BK182.out 3).trans rfl; have hfz55_0 := blk_frozen BK182.out 0; have hfz55_1 := blk_frozen BK182.out 1; have hfz55_2 := blk_frozen BK182.out 2; have hfz55_3 := blk_frozen BK182.out 3; obtain ⟨Ao56, co56, eo56⟩ := Kd.V_slice HO180.out; subst eo56))
        (try simp only [Act.put, List.setIfInBounds_toArray, List.set_cons_zero, List.set_cons_succ])
        go_cut [81] (fun v81 wc => ∃ (kq : Nat) (x81_29 : Bool), v81 = .bool x81_29 ∧ Aside0 (incipitlaw04_FrameReads.j1 kq x0_8 t165 x81_29 t151 t152 t153 t154 = some r) ∧ Aside0 (kq ≤ kj8) ∧ Aside0 (Kd.R (Kd.int .u8) 5 wc w.heap.size (fun k_ => some k_ ≠ ((.slice Ao36 t154.length co36) : Value).ownBlock ∧ some k_ ≠ ((.slice Ao48 t170.length co48) : Value).ownBlock) (.slice Ao32 x0_8.length co32) x0_8) ∧ Aside0 (Kd.R (Kd.int .u8) 5 wc w.heap.size (fun k_ => some k_ ≠ ((.slice Ao32 x0_8.length co32) : Value).ownBlock ∧ some k_ ≠ ((.slice Ao48 t170.length co48) : Value).ownBlock) (.slice Ao36 t154.length co36) t154) ∧ Aside0 (Kd.V (Kd.int .u8) 5 wc w.heap.size (fun k_ => some k_ ≠ ((.slice Ao36 t154.length co36) : Value).ownBlock ∧ some k_ ≠ ((.slice Ao48 t170.length co48) : Value).ownBlock ∧ k_ ≠ gb158 ∧ k_ ≠ gb166 ∧ k_ ≠ gb174 ∧ k_ ≠ gb182) (.slice Ao42 t162.length co42) t162) ∧ Aside0 (Kd.R (Kd.int .u8) 5 wc w.heap.size (fun k_ => some k_ ≠ ((.slice Ao32 x0_8.length co32) : Value).ownBlock ∧ some k_ ≠ ((.slice Ao36 t154.length co36) : Value).ownBlock) (.slice Ao48 t170.length co48) t170) ∧ Aside0 (Kd.V (Kd.int .u8) 5 wc w.heap.size (fun k_ => some k_ ≠ ((.slice Ao36 t154.length co36) : Value).ownBlock ∧ some k_ ≠ ((.slice Ao48 t170.length co48) : Value).ownBlock ∧ k_ ≠ gb158 ∧ k_ ≠ gb166 ∧ k_ ≠ gb174 ∧ k_ ≠ gb182) (.slice Ao56 t178.length co56) t178) ∧ Aside0 (wc.heap[gb158]? = some (.cells #[.int .i64 t151, .int .i64 t152, .int .i64 t153, (.slice Ao36 t154.length co36)] 67 (0, 0))) ∧ Aside0 (wc.heap[gb166]? = some (.cells #[.int .i64 t159, .int .i64 t160, .int .i64 t161, (.slice Ao42 t162.length co42)] 66 (0, 0))) ∧ Aside0 (wc.heap[gb174]? = some (.cells #[.int .i64 t167, .int .i64 t168, .int .i64 t169, (.slice Ao48 t170.length co48)] 67 (0, 0))) ∧ Aside0 (wc.heap[gb182]? = some (.cells #[.int .i64 t175, .int .i64 t176, .int .i64 t177, (.slice Ao56 t178.length co56)] 66 (0, 0))) ∧ Aside0 (Below w.heap.size w wc))
        case first =>
         have H := HC30.out
         clear HC30
         by_cases c57 : t157 = t165
         ·rw [if_pos c57] at H
          have c57b0 : (t157 == t165) = true := beq_iff_eq.mpr c57
          have c57b1 : (t157 != t165) = false := bne_eq_false_iff_eq.mpr c57
          clear c57
          (first | rw [c57b0] | (simp only [i64_w, i32_w]; rw [c57b0]) | skip)
          by_cases c58 : t173 = t181
          ·rw [if_pos c58] at H
           have c58b0 : (t173 == t181) = true := beq_iff_eq.mpr c58
           have c58b1 : (t173 != t181) = false := bne_eq_false_iff_eq.mpr c58
           clear c58
           replace H := Option.bind_eq_some_iff.mp H
           obtain ⟨⟨t183, t184, t185, t186⟩, A590, H⟩ := H
           replace H : ((incipitref04_Same.f kj8 t183 t184 t185 t186 t159 t160 t161 t162).bind fun t189 => (if t189 = true then ((incipitlaw04_Of.f t167 t168 t169 t170).bind fun bt190 => ((incipitref04_Same.f kj8 bt190.1 bt190.2.1 bt190.2.2.1 bt190.2.2.2 t175 t176 t177 t178).bind fun t196 => (incipitlaw04_FrameReads.j1 kj8 x0_8 t165 (!t196) t151 t152 t153 t154))) else (incipitlaw04_FrameReads.j1 kj8 x0_8 t165 true t151 t152 t153 t154))) = some r := H
           have A59 := Aside0.mk A590
           clear A590
           replace H := Option.bind_eq_some_iff.mp H
           obtain ⟨t189, A600, H⟩ := H
           replace H : (if t189 = true then ((incipitlaw04_Of.f t167 t168 t169 t170).bind fun bt190 => ((incipitref04_Same.f kj8 bt190.1 bt190.2.1 bt190.2.2.1 bt190.2.2.2 t175 t176 t177 t178).bind fun t196 => (incipitlaw04_FrameReads.j1 kj8 x0_8 t165 (!t196) t151 t152 t153 t154))) else (incipitlaw04_FrameReads.j1 kj8 x0_8 t165 true t151 t152 t153 t154)) = some r := H
           have A60 := Aside0.mk A600
           clear A600
           by_cases c61 : t189 = true
           ·subst c61
            have H1 : ((incipitlaw04_Of.f t167 t168 t169 t170).bind fun bt190 => ((incipitref04_Same.f kj8 bt190.1 bt190.2.1 bt190.2.2.1 bt190.2.2.2 t175 t176 t177 t178).bind fun t196 => (incipitlaw04_FrameReads.j1 kj8 x0_8 t165 (!t196) t151 t152 t153 t154))) = some r := by rw [if_pos rfl] at H; exact H
            clear H
            have H := H1
            clear H1
            replace H := Option.bind_eq_some_iff.mp H
            obtain ⟨⟨t190, t191, t192, t193⟩, A620, H⟩ := H
            replace H : ((incipitref04_Same.f kj8 t190 t191 t192 t193 t175 t176 t177 t178).bind fun t196 => (incipitlaw04_FrameReads.j1 kj8 x0_8 t165 (!t196) t151 t152 t153 t154)) = some r := H
            have A62 := Aside0.mk A620
            clear A620
            replace H := Option.bind_eq_some_iff.mp H
            obtain ⟨t196, A630, H⟩ := H
            replace H : (incipitlaw04_FrameReads.j1 kj8 x0_8 t165 (!t196) t151 t152 t153 t154) = some r := H
            have A63 := Aside0.mk A630
            clear A630
            have H' := Aside0.mk H
            clear H
            try go_wp2
            have n0_ : Aside0 (Kd.R (Kd.int .u8) 5 ((((w51.setCell ⟨gb182, 0, none⟩ (.int .i64 t175)).setCell ⟨gb182, 1, none⟩ (.int .i64 t176)).setCell ⟨gb182, 2, none⟩ (.int .i64 t177)).setCell ⟨gb182, 3, none⟩ (.slice Ao56 t178.length co56)) w.heap.size (fun k_ => some k_ ≠ (.slice Ao36 t154.length co36 : Value).ownBlock ∧ some k_ ≠ (.slice Ao48 t170.length co48 : Value).ownBlock) (.slice Ao32 x0_8.length co32) x0_8) := ⟨by (with_reducible repeat (first | apply Kd.R_alloc | apply Kd.R_drewN | apply Kd.R_drew)); exact Kd.R_mono (Kd.R_far (p := ⟨gb182, 3, none⟩) (Kd.R_far (p := ⟨gb182, 2, none⟩) (Kd.R_far (p := ⟨gb182, 1, none⟩) (Kd.R_far (p := ⟨gb182, 0, none⟩) (Kd.R_types HO_0.out BK182.out (by decide)) (fun _ hk => hk.2) (.int .i64 t175)) (fun _ hk => hk.2) (.int .i64 t176)) (fun _ hk => hk.2) (.int .i64 t177)) (fun _ hk => hk.2) (.slice Ao56 t178.length co56)) (fun _ hk => ⟨hk.1.1, hk.1.2⟩)⟩
            have n1_ : Aside0 (Kd.R (Kd.int .u8) 5 ((((w51.setCell ⟨gb182, 0, none⟩ (.int .i64 t175)).setCell ⟨gb182, 1, none⟩ (.int .i64 t176)).setCell ⟨gb182, 2, none⟩ (.int .i64 t177)).setCell ⟨gb182, 3, none⟩ (.slice Ao56 t178.length co56)) w.heap.size (fun k_ => some k_ ≠ (.slice Ao32 x0_8.length co32 : Value).ownBlock ∧ some k_ ≠ (.slice Ao48 t170.length co48 : Value).ownBlock) (.slice Ao36 t154.length co36) t154) := ⟨by (with_reducible repeat (first | apply Kd.R_alloc | apply Kd.R_drewN | apply Kd.R_drew)); exact Kd.R_mono (Kd.R_far (p := ⟨gb182, 3, none⟩) (Kd.R_far (p := ⟨gb182, 2, none⟩) (Kd.R_far (p := ⟨gb182, 1, none⟩) (Kd.R_far (p := ⟨gb182, 0, none⟩) (Kd.R_types HO156.out BK182.out (by decide)) (fun _ hk => hk.2) (.int .i64 t175)) (fun _ hk => hk.2) (.int .i64 t176)) (fun _ hk => hk.2) (.int .i64 t177)) (fun _ hk => hk.2) (.slice Ao56 t178.length co56)) (fun _ hk => ⟨hk.1.1, hk.1.2⟩)⟩
            have n2_ : Aside0 (Kd.V (Kd.int .u8) 5 ((((w51.setCell ⟨gb182, 0, none⟩ (.int .i64 t175)).setCell ⟨gb182, 1, none⟩ (.int .i64 t176)).setCell ⟨gb182, 2, none⟩ (.int .i64 t177)).setCell ⟨gb182, 3, none⟩ (.slice Ao56 t178.length co56)) w.heap.size (fun k_ => some k_ ≠ (.slice Ao36 t154.length co36 : Value).ownBlock ∧ some k_ ≠ (.slice Ao48 t170.length co48 : Value).ownBlock ∧ k_ ≠ gb158 ∧ k_ ≠ gb166 ∧ k_ ≠ gb174 ∧ k_ ≠ gb182) (.slice Ao42 t162.length co42) t162) := ⟨by (with_reducible repeat (first | apply Kd.V_alloc | apply Kd.V_drewN | apply Kd.V_drew)); exact Kd.V_mono (Kd.V_far (p := ⟨gb182, 3, none⟩) (Kd.V_far (p := ⟨gb182, 2, none⟩) (Kd.V_far (p := ⟨gb182, 1, none⟩) (Kd.V_far (p := ⟨gb182, 0, none⟩) (Kd.V_mono HO164.out (fun k_ hk => (⟨hk, hk.2⟩ : _ ∧ k_ ≠ gb182))) (fun _ hk => hk.2) (.int .i64 t175)) (fun _ hk => hk.2) (.int .i64 t176)) (fun _ hk => hk.2) (.int .i64 t177)) (fun _ hk => hk.2) (.slice Ao56 t178.length co56)) (fun _ hk => ⟨hk.1.1.1, ⟨hk.1.1.2.1, ⟨hk.1.1.2.2.1, ⟨hk.1.1.2.2.2.1, ⟨hk.1.1.2.2.2.2, hk.1.2⟩⟩⟩⟩⟩)⟩
            have n3_ : Aside0 (Kd.R (Kd.int .u8) 5 ((((w51.setCell ⟨gb182, 0, none⟩ (.int .i64 t175)).setCell ⟨gb182, 1, none⟩ (.int .i64 t176)).setCell ⟨gb182, 2, none⟩ (.int .i64 t177)).setCell ⟨gb182, 3, none⟩ (.slice Ao56 t178.length co56)) w.heap.size (fun k_ => some k_ ≠ (.slice Ao32 x0_8.length co32 : Value).ownBlock ∧ some k_ ≠ (.slice Ao36 t154.length co36 : Value).ownBlock) (.slice Ao48 t170.length co48) t170) := ⟨by (with_reducible repeat (first | apply Kd.R_alloc | apply Kd.R_drewN | apply Kd.R_drew)); exact Kd.R_mono (Kd.R_far (p := ⟨gb182, 3, none⟩) (Kd.R_far (p := ⟨gb182, 2, none⟩) (Kd.R_far (p := ⟨gb182, 1, none⟩) (Kd.R_far (p := ⟨gb182, 0, none⟩) (Kd.R_types HO172.out BK182.out (by decide)) (fun _ hk => hk.2) (.int .i64 t175)) (fun _ hk => hk.2) (.int .i64 t176)) (fun _ hk => hk.2) (.int .i64 t177)) (fun _ hk => hk.2) (.slice Ao56 t178.length co56)) (fun _ hk => ⟨hk.1.1, hk.1.2⟩)⟩
            have n4_ : Aside0 (Kd.V (Kd.int .u8) 5 ((((w51.setCell ⟨gb182, 0, none⟩ (.int .i64 t175)).setCell ⟨gb182, 1, none⟩ (.int .i64 t176)).setCell ⟨gb182, 2, none⟩ (.int .i64 t177)).setCell ⟨gb182, 3, none⟩ (.slice Ao56 t178.length co56)) w.heap.size (fun k_ => some k_ ≠ (.slice Ao36 t154.length co36 : Value).ownBlock ∧ some k_ ≠ (.slice Ao48 t170.length co48 : Value).ownBlock ∧ k_ ≠ gb158 ∧ k_ ≠ gb166 ∧ k_ ≠ gb174 ∧ k_ ≠ gb182) (.slice Ao56 t178.length co56) t178) := ⟨by (with_reducible repeat (first | apply Kd.V_alloc | apply Kd.V_drewN | apply Kd.V_drew)); exact Kd.V_mono (Kd.V_far (p := ⟨gb182, 3, none⟩) (Kd.V_far (p := ⟨gb182, 2, none⟩) (Kd.V_far (p := ⟨gb182, 1, none⟩) (Kd.V_far (p := ⟨gb182, 0, none⟩) (Kd.V_mono HO180.out (fun k_ hk => (⟨hk, hk.2⟩ : _ ∧ k_ ≠ gb182))) (fun _ hk => hk.2) (.int .i64 t175)) (fun _ hk => hk.2) (.int .i64 t176)) (fun _ hk => hk.2) (.int .i64 t177)) (fun _ hk => hk.2) (.slice Ao56 t178.length co56)) (fun _ hk => ⟨hk.1.1.1, ⟨hk.1.1.2.1, ⟨hk.1.1.2.2.1, ⟨hk.1.1.2.2.2.1, ⟨hk.1.1.2.2.2.2, hk.1.2⟩⟩⟩⟩⟩)⟩
            have n5_ : Aside0 (((((w51.setCell ⟨gb182, 0, none⟩ (.int .i64 t175)).setCell ⟨gb182, 1, none⟩ (.int .i64 t176)).setCell ⟨gb182, 2, none⟩ (.int .i64 t177)).setCell ⟨gb182, 3, none⟩ (.slice Ao56 t178.length co56)).heap[gb158]? = some (.cells #[.int .i64 t151, .int .i64 t152, .int .i64 t153, .slice Ao36 t154.length co36] 67 (0, 0))) := ⟨by (with_reducible repeat (first | refine blk_drewN ?_ _ | refine blk_drew ?_ | refine blk_alloc ?_ _)); refine blk_far ?_ NB158_182.out _; (with_reducible repeat (first | refine blk_drewN ?_ _ | refine blk_drew ?_ | refine blk_alloc ?_ _)); refine blk_far ?_ NB158_182.out _; (with_reducible repeat (first | refine blk_drewN ?_ _ | refine blk_drew ?_ | refine blk_alloc ?_ _)); refine blk_far ?_ NB158_182.out _; (with_reducible repeat (first | refine blk_drewN ?_ _ | refine blk_drew ?_ | refine blk_alloc ?_ _)); refine blk_far ?_ NB158_182.out _; (with_reducible repeat (first | refine blk_drewN ?_ _ | refine blk_drew ?_ | refine blk_alloc ?_ _)); exact BK158.out⟩
            have n6_ : Aside0 (((((w51.setCell ⟨gb182, 0, none⟩ (.int .i64 t175)).setCell ⟨gb182, 1, none⟩ (.int .i64 t176)).setCell ⟨gb182, 2, none⟩ (.int .i64 t177)).setCell ⟨gb182, 3, none⟩ (.slice Ao56 t178.length co56)).heap[gb166]? = some (.cells #[.int .i64 t159, .int .i64 t160, .int .i64 t161, .slice Ao42 t162.length co42] 66 (0, 0))) := ⟨by (with_reducible repeat (first | refine blk_drewN ?_ _ | refine blk_drew ?_ | refine blk_alloc ?_ _)); refine blk_far ?_ NB166_182.out _; (with_reducible repeat (first | refine blk_drewN ?_ _ | refine blk_drew ?_ | refine blk_alloc ?_ _)); refine blk_far ?_ NB166_182.out _; (with_reducible repeat (first | refine blk_drewN ?_ _ | refine blk_drew ?_ | refine blk_alloc ?_ _)); refine blk_far ?_ NB166_182.out _; (with_reducible repeat (first | refine blk_drewN ?_ _ | refine blk_drew ?_ | refine blk_alloc ?_ _)); refine blk_far ?_ NB166_182.out _; (with_reducible repeat (first | refine blk_drewN ?_ _ | refine blk_drew ?_ | refine blk_alloc ?_ _)); exact BK166.out⟩
            have n7_ : Aside0 (((((w51.setCell ⟨gb182, 0, none⟩ (.int .i64 t175)).setCell ⟨gb182, 1, none⟩ (.int .i64 t176)).setCell ⟨gb182, 2, none⟩ (.int .i64 t177)).setCell ⟨gb182, 3, none⟩ (.slice Ao56 t178.length co56)).heap[gb174]? = some (.cells #[.int .i64 t167, .int .i64 t168, .int .i64 t169, .slice Ao48 t170.length co48] 67 (0, 0))) := ⟨by (with_reducible repeat (first | refine blk_drewN ?_ _ | refine blk_drew ?_ | refine blk_alloc ?_ _)); refine blk_far ?_ NB174_182.out _; (with_reducible repeat (first | refine blk_drewN ?_ _ | refine blk_drew ?_ | refine blk_alloc ?_ _)); refine blk_far ?_ NB174_182.out _; (with_reducible repeat (first | refine blk_drewN ?_ _ | refine blk_drew ?_ | refine blk_alloc ?_ _)); refine blk_far ?_ NB174_182.out _; (with_reducible repeat (first | refine blk_drewN ?_ _ | refine blk_drew ?_ | refine blk_alloc ?_ _)); refine blk_far ?_ NB174_182.out _; (with_reducible repeat (first | refine blk_drewN ?_ _ | refine blk_drew ?_ | refine blk_alloc ?_ _)); exact BK174.out⟩
            have n8_ : Aside0 (((((w51.setCell ⟨gb182, 0, none⟩ (.int .i64 t175)).setCell ⟨gb182, 1, none⟩ (.int .i64 t176)).setCell ⟨gb182, 2, none⟩ (.int .i64 t177)).setCell ⟨gb182, 3, none⟩ (.slice Ao56 t178.length co56)).heap[gb182]? = some (.cells #[.int .i64 t175, .int .i64 t176, .int .i64 t177, .slice Ao56 t178.length co56] 66 (0, 0))) := ⟨by (with_reducible repeat (first | refine blk_drewN ?_ _ | refine blk_drew ?_ | refine blk_alloc ?_ _)); refine blk_put (cs := #[.int .i64 t175, .int .i64 t176, .int .i64 t177, .slice none 0 0]) ?_ 3 _ rfl; (with_reducible repeat (first | refine blk_drewN ?_ _ | refine blk_drew ?_ | refine blk_alloc ?_ _)); refine blk_put (cs := #[.int .i64 t175, .int .i64 t176, .int .i64 0, .slice none 0 0]) ?_ 2 _ rfl; (with_reducible repeat (first | refine blk_drewN ?_ _ | refine blk_drew ?_ | refine blk_alloc ?_ _)); refine blk_put (cs := #[.int .i64 t175, .int .i64 0, .int .i64 0, .slice none 0 0]) ?_ 1 _ rfl; (with_reducible repeat (first | refine blk_drewN ?_ _ | refine blk_drew ?_ | refine blk_alloc ?_ _)); refine blk_put (cs := #[.int .i64 0, .int .i64 0, .int .i64 0, .slice none 0 0]) ?_ 0 _ rfl; (with_reducible repeat (first | refine blk_drewN ?_ _ | refine blk_drew ?_ | refine blk_alloc ?_ _)); exact BK182.out⟩
            have n9_ : Aside0 (Below w.heap.size w ((((w51.setCell ⟨gb182, 0, none⟩ (.int .i64 t175)).setCell ⟨gb182, 1, none⟩ (.int .i64 t176)).setCell ⟨gb182, 2, none⟩ (.int .i64 t177)).setCell ⟨gb182, 3, none⟩ (.slice Ao56 t178.length co56))) := ⟨by repeat (first | (with_reducible first | exact HB.out | apply below_alloc | apply pw_below_drewN | apply below_drew1 | refine below_set ?_ GE158.out | refine below_set ?_ GE166.out | refine below_set ?_ GE174.out | refine below_set ?_ GE182.out) | exact HB.out)⟩
            (try clear HO_0)
            (try clear HO156)
            (try clear HO164)
            (try clear HO172)
            (try clear HO180)
            (try clear BK158)
            (try clear BK166)
            (try clear BK174)
            (try clear BK182)
            (try clear HB)
            generalize ((((w51.setCell ⟨gb182, 0, none⟩ (.int .i64 t175)).setCell ⟨gb182, 1, none⟩ (.int .i64 t176)).setCell ⟨gb182, 2, none⟩ (.int .i64 t177)).setCell ⟨gb182, 3, none⟩ (.slice Ao56 t178.length co56)) = w64 at n0_ n1_ n2_ n3_ n4_ n5_ n6_ n7_ n8_ n9_ ⊢
            have HO_0 := n0_
            have HO156 := n1_
            have HO164 := n2_
            have HO172 := n3_
            have HO180 := n4_
            have BK158 := n5_
            have BK166 := n6_
            have BK174 := n7_
            have BK182 := n8_
            have HB := n9_
            clear n0_ n1_ n2_ n3_ n4_ n5_ n6_ n7_ n8_ n9_
            have n0_ := Aside0.mk (Kd.R_drew HO_0.out)
            have n1_ := Aside0.mk (Kd.R_drew HO156.out)
            have n2_ := Aside0.mk (Kd.V_drew HO164.out)
            have n3_ := Aside0.mk (Kd.R_drew HO172.out)
            have n4_ := Aside0.mk (Kd.V_drew HO180.out)
            have n5_ := Aside0.mk (blk_drew BK158.out)
            have n6_ := Aside0.mk (blk_drew BK166.out)
            have n7_ := Aside0.mk (blk_drew BK174.out)
            have n8_ := Aside0.mk (blk_drew BK182.out)
            have n9_ := Aside0.mk (below_drew1 HB.out)
            clear HO_0
            clear HO156
            clear HO164
            clear HO172
            clear HO180
            clear BK158
            clear BK166
            clear BK174
            clear BK182
            clear HB
            have HO_0 := n0_
            have HO156 := n1_
            have HO164 := n2_
            have HO172 := n3_
            have HO180 := n4_
            have BK158 := n5_
            have BK166 := n6_
            have BK174 := n7_
            have BK182 := n8_
            have HB := n9_
            clear n0_ n1_ n2_ n3_ n4_ n5_ n6_ n7_ n8_ n9_
            refine start_ (n := 22) (S := fun w' => w'.cell? ⟨gb158, 0, none⟩ = some (.int .i64 t151) ∧ w'.cell? ⟨gb158, 1, none⟩ = some (.int .i64 t152) ∧ w'.cell? ⟨gb158, 2, none⟩ = some (.int .i64 t153) ∧ w'.cell? ⟨gb158, 3, none⟩ = some (.slice Ao36 t154.length co36) ∧ w'.cell? ⟨gb166, 0, none⟩ = some (.int .i64 t159) ∧ w'.cell? ⟨gb166, 1, none⟩ = some (.int .i64 t160) ∧ w'.cell? ⟨gb166, 2, none⟩ = some (.int .i64 t161) ∧ w'.cell? ⟨gb166, 3, none⟩ = some (.slice Ao42 t162.length co42) ∧ w'.cell? ⟨gb174, 0, none⟩ = some (.int .i64 t167) ∧ w'.cell? ⟨gb174, 1, none⟩ = some (.int .i64 t168) ∧ w'.cell? ⟨gb174, 2, none⟩ = some (.int .i64 t169) ∧ w'.cell? ⟨gb174, 3, none⟩ = some (.slice Ao48 t170.length co48) ∧ w'.cell? ⟨gb182, 0, none⟩ = some (.int .i64 t175) ∧ w'.cell? ⟨gb182, 1, none⟩ = some (.int .i64 t176) ∧ w'.cell? ⟨gb182, 2, none⟩ = some (.int .i64 t177) ∧ w'.cell? ⟨gb182, 3, none⟩ = some (.slice Ao56 t178.length co56)) (ds := []) #[false, false, false, false, false, false, false, false, false, false, false, false, false, false, false, false, false, false, false, false, false, false] (by kernel_rfl) rfl rfl ⟨(blk_cell BK158.out 0).trans rfl, (blk_cell BK158.out 1).trans rfl, (blk_cell BK158.out 2).trans rfl, (blk_cell BK158.out 3).trans rfl, (blk_cell BK166.out 0).trans rfl, (blk_cell BK166.out 1).trans rfl, (blk_cell BK166.out 2).trans rfl, (blk_cell BK166.out 3).trans rfl, (blk_cell BK174.out 0).trans rfl, (blk_cell BK174.out 1).trans rfl, (blk_cell BK174.out 2).trans rfl, (blk_cell BK174.out 3).trans rfl, (blk_cell BK182.out 0).trans rfl, (blk_cell BK182.out 1).trans rfl, (blk_cell BK182.out 2).trans rfl, (blk_cell BK182.out 3).trans rfl⟩ (fun hHeld => ?_); refine with_tabW incipitlaw04_FrameReads.tab9 incipitlaw04_FrameReads.bits9 (fun HT_ HW_ => ?_)
            generalize w64.drew = w65 at HO_0 HO156 HO164 HO172 HO180 BK158 BK166 BK174 BK182 HB hHeld ⊢
            refine pure_ (i := 0) (N := some 60) (v := ?_) (a' := ?_) #[true, false, false, false, false, false, false, false, false, false, false, false, false, false, false, false, false, false, false, false, false, false] rfl rfl (any_of HT_.out (by kernel_rfl)) (fun _ _ _ h => h) (Or.inl ⟨by rfl, ?_⟩) ?_ ?_
            rotate_left
            ·intro w'
             go_simp
             with_reducible rfl
            rotate_left
            ·simp only [Act.put, List.setIfInBounds_toArray, List.set_cons_zero, List.set_cons_succ, i64_w, i32_w]
             rfl
            refine pure_ (i := 1) (N := some 61) (v := ?_) (a' := ?_) #[true, true, false, false, false, false, false, false, false, false, false, false, false, false, false, false, false, false, false, false, false, false] rfl rfl (any_of HT_.out (by kernel_rfl)) (fun _ _ _ h => h) (Or.inl ⟨by rfl, ?_⟩) ?_ ?_
            rotate_left
            ·intro w'
             go_simp
             with_reducible rfl
            rotate_left
            ·simp only [Act.put, List.setIfInBounds_toArray, List.set_cons_zero, List.set_cons_succ, i64_w, i32_w]
             rfl
            refine pure_ (i := 2) (N := some 62) (v := ?_) (a' := ?_) #[true, true, true, false, false, false, false, false, false, false, false, false, false, false, false, false, false, false, false, false, false, false] rfl rfl (any_of HT_.out (by kernel_rfl)) (fun _ _ _ h => h) (Or.inl ⟨by rfl, ?_⟩) ?_ ?_
            rotate_left
            ·intro w'
             go_simp
             with_reducible rfl
            rotate_left
            ·simp only [Act.put, List.setIfInBounds_toArray, List.set_cons_zero, List.set_cons_succ, i64_w, i32_w]
             rfl
            refine pure_ (i := 3) (N := some 63) (v := ?_) (a' := ?_) #[true, true, true, true, false, false, false, false, false, false, false, false, false, false, false, false, false, false, false, false, false, false] rfl rfl (any_of HT_.out (by kernel_rfl)) (fun _ _ _ h => h) (Or.inl ⟨by rfl, ?_⟩) ?_ ?_
            rotate_left
            ·intro w'
             go_simp
             with_reducible rfl
            rotate_left
            ·simp only [Act.put, List.setIfInBounds_toArray, List.set_cons_zero, List.set_cons_succ, i64_w, i32_w]
             rfl
            refine pure_ (i := 4) (N := some 64) (v := ?_) (a' := ?_) #[true, true, true, true, true, false, false, false, false, false, false, false, false, false, false, false, false, false, false, false, false, false] rfl rfl (any_of HT_.out (by kernel_rfl)) (fun _ _ _ h => h) (Or.inl ⟨by rfl, ?_⟩) ?_ ?_
            rotate_left
            ·intro w'
             go_simp
             with_reducible rfl
            rotate_left
            ·simp only [Act.put, List.setIfInBounds_toArray, List.set_cons_zero, List.set_cons_succ, i64_w, i32_w]
             rfl
            refine pure_ (i := 5) (N := some 65) (v := ?_) (a' := ?_) #[true, true, true, true, true, true, false, false, false, false, false, false, false, false, false, false, false, false, false, false, false, false] rfl rfl (any_of HT_.out (by kernel_rfl)) (fun _ _ _ h => h) (Or.inl ⟨by rfl, ?_⟩) ?_ ?_
            rotate_left
            ·intro w'
             go_simp
             with_reducible rfl
            rotate_left
            ·simp only [Act.put, List.setIfInBounds_toArray, List.set_cons_zero, List.set_cons_succ, i64_w, i32_w]
             rfl
            refine pure_ (i := 6) (N := some 66) (v := ?_) (a' := ?_) #[true, true, true, true, true, true, true, false, false, false, false, false, false, false, false, false, false, false, false, false, false, false] rfl rfl (any_of HT_.out (by kernel_rfl)) (fun _ _ _ h => h) (Or.inl ⟨by rfl, ?_⟩) ?_ ?_
            rotate_left
            ·intro w'
             go_simp
             with_reducible rfl
            rotate_left
            ·simp only [Act.put, List.setIfInBounds_toArray, List.set_cons_zero, List.set_cons_succ, i64_w, i32_w]
             rfl
            refine pure_ (i := 7) (N := some 67) (v := ?_) (a' := ?_) #[true, true, true, true, true, true, true, true, false, false, false, false, false, false, false, false, false, false, false, false, false, false] rfl rfl (any_of HT_.out (by kernel_rfl)) (fun _ _ _ h => h) (Or.inl ⟨by rfl, ?_⟩) ?_ ?_
            rotate_left
            ·intro w'
             go_simp
             with_reducible rfl
            rotate_left
            ·simp only [Act.put, List.setIfInBounds_toArray, List.set_cons_zero, List.set_cons_succ, i64_w, i32_w]
             rfl
            refine pure_ (i := 8) (N := some 68) (v := ?_) (a' := ?_) #[true, true, true, true, true, true, true, true, true, false, false, false, false, false, false, false, false, false, false, false, false, false] rfl rfl (any_of HT_.out (by kernel_rfl)) (fun _ _ _ h => h) (Or.inl ⟨by rfl, ?_⟩) ?_ ?_
            rotate_left
            ·intro w'
             go_simp
             with_reducible rfl
            rotate_left
            ·simp only [Act.put, List.setIfInBounds_toArray, List.set_cons_zero, List.set_cons_succ, i64_w, i32_w]
             rfl
            refine take_ (i := 9) (N := some 69) (v := ?_) (a' := ?_) #[true, true, true, true, true, true, true, true, true, true, false, false, false, false, false, false, false, false, false, false, false, false] rfl rfl (take_ofW HT_.out HW_.out (by kernel_rfl)) (fun _ _ _ h => h) (Or.inl ⟨by rfl, ?_⟩) hHeld ?_ ?_
            rotate_left
            ·rintro w' ⟨s0, s1, s2, s3, s4, s5, s6, s7, s8, s9, s10, s11, s12, s13, s14, s15⟩
             go_simp
             with_reducible rfl
            rotate_left
            ·simp only [Act.put, List.setIfInBounds_toArray, List.set_cons_zero, List.set_cons_succ, i64_w, i32_w]
             rfl
            refine take_ (i := 11) (N := some 71) (v := ?_) (a' := ?_) #[true, true, true, true, true, true, true, true, true, true, false, true, false, false, false, false, false, false, false, false, false, false] rfl rfl (take_ofW HT_.out HW_.out (by kernel_rfl)) (fun _ _ _ h => h) (Or.inl ⟨by rfl, ?_⟩) hHeld ?_ ?_
            rotate_left
            ·rintro w' ⟨s0, s1, s2, s3, s4, s5, s6, s7, s8, s9, s10, s11, s12, s13, s14, s15⟩
             go_simp
             with_reducible rfl
            rotate_left
            ·simp only [Act.put, List.setIfInBounds_toArray, List.set_cons_zero, List.set_cons_succ, i64_w, i32_w]
             rfl
            refine one_ (i := 10) (N := some 70) #[true, true, true, true, true, true, true, true, true, true, true, true, false, false, false, false, false, false, false, false, false, false] rfl rfl (one_of HT_.out (by kernel_rfl)) (by decide) (fun K hK => ?_)
            refine goes_ Try.func37 (by kernel_rfl) rfl #[.agg #[.int .i64 t151, .int .i64 t152, .int .i64 t153, .slice Ao36 t154.length co36]] (by rfl) rfl rfl (by (try simp only [List.map_toArray, List.map_cons, List.map_nil]); first | done | rfl | (simp only [List.length_drop, List.length_take]; rfl)) ?_
            with_reducible refine (incipitlaw04_Of.calls t151 t152 t153 (fun k_ => some k_ = (.slice Ao36 t154.length co36 : Value).ownBlock) _ _ t154 t183 t184 t185 t186 _ ?side1 A59.out).mono ?_
            (case side1 => exact Kd.R_V (Kd.R_tight rfl (Kd.R_types (Kd.R_types (Kd.R_types (Kd.R_types (HO156.out) BK158.out (by decide)) BK166.out (by decide)) BK174.out (by decide)) BK182.out (by decide))))
            rintro e w66 ⟨v187, rfl, ho0, hb⟩
            refine ⟨_, rfl, ?_⟩
            have n0_ := Aside0.mk (Kd.R_below (by (with_reducible repeat (first | apply Kd.R_alloc | apply Kd.R_drewN | apply Kd.R_drew)); exact HO_0.out) hb)
            have n1_ := Aside0.mk (Kd.R_below (by (with_reducible repeat (first | apply Kd.R_alloc | apply Kd.R_drewN | apply Kd.R_drew)); exact HO156.out) hb)
            have n2_ := Aside0.mk (Kd.V_below (by (with_reducible repeat (first | apply Kd.V_alloc | apply Kd.V_drewN | apply Kd.V_drew)); exact HO164.out) hb)
            have n3_ := Aside0.mk (Kd.R_below (by (with_reducible repeat (first | apply Kd.R_alloc | apply Kd.R_drewN | apply Kd.R_drew)); exact HO172.out) hb)
            have n4_ := Aside0.mk (Kd.V_below (by (with_reducible repeat (first | apply Kd.V_alloc | apply Kd.V_drewN | apply Kd.V_drew)); exact HO180.out) hb)
            have n5_ := Aside0.mk (Kd.V_lower (Kd.V_mono (ok' := fun k_ => some k_ ≠ (.slice Ao32 x0_8.length co32 : Value).ownBlock ∧ some k_ ≠ (.slice Ao48 t170.length co48 : Value).ownBlock ∧ k_ ≠ gb158 ∧ k_ ≠ gb166 ∧ k_ ≠ gb174 ∧ k_ ≠ gb182) ho0 (fun k_ hk_ => ⟨Or.elim hk_ (fun hs_ => ((Kd.R_types (Kd.R_types (Kd.R_types (Kd.R_types (HO156.out) BK158.out (by decide)) BK166.out (by decide)) BK174.out (by decide)) BK182.out (by decide)).1 k_ hs_.symm).1.1.1.1.1) (fun hn_ => (Kd.fresh' (Kd.R_lt (by (with_reducible repeat (first | apply Kd.R_alloc | apply Kd.R_drewN | apply Kd.R_drew)); exact HO_0.out)) k_ hn_)), Or.elim hk_ (fun hs_ => ((Kd.R_types (Kd.R_types (Kd.R_types (Kd.R_types (HO156.out) BK158.out (by decide)) BK166.out (by decide)) BK174.out (by decide)) BK182.out (by decide)).1 k_ hs_.symm).1.1.1.1.2) (fun hn_ => (Kd.fresh' (Kd.R_lt (by (with_reducible repeat (first | apply Kd.R_alloc | apply Kd.R_drewN | apply Kd.R_drew)); exact HO172.out)) k_ hn_)), Or.elim hk_ (fun hs_ => ((Kd.R_types (Kd.R_types (Kd.R_types (Kd.R_types (HO156.out) BK158.out (by decide)) BK166.out (by decide)) BK174.out (by decide)) BK182.out (by decide)).1 k_ hs_.symm).1.1.1.2) (fun hn_ => (Kd.freshB (g := gb158) (o := .cells #[.int .i64 t151, .int .i64 t152, .int .i64 t153, .slice Ao36 t154.length co36] 67 (0, 0)) (by (with_reducible repeat (first | refine blk_drewN ?_ _ | refine blk_drew ?_ | refine blk_alloc ?_ _)); exact BK158.out) k_ hn_)), Or.elim hk_ (fun hs_ => ((Kd.R_types (Kd.R_types (Kd.R_types (Kd.R_types (HO156.out) BK158.out (by decide)) BK166.out (by decide)) BK174.out (by decide)) BK182.out (by decide)).1 k_ hs_.symm).1.1.2) (fun hn_ => (Kd.freshB (g := gb166) (o := .cells #[.int .i64 t159, .int .i64 t160, .int .i64 t161, .slice Ao42 t162.length co42] 66 (0, 0)) (by (with_reducible repeat (first | refine blk_drewN ?_ _ | refine blk_drew ?_ | refine blk_alloc ?_ _)); exact BK166.out) k_ hn_)), Or.elim hk_ (fun hs_ => ((Kd.R_types (Kd.R_types (Kd.R_types (Kd.R_types (HO156.out) BK158.out (by decide)) BK166.out (by decide)) BK174.out (by decide)) BK182.out (by decide)).1 k_ hs_.symm).1.2) (fun hn_ => (Kd.freshB (g := gb174) (o := .cells #[.int .i64 t167, .int .i64 t168, .int .i64 t169, .slice Ao48 t170.length co48] 67 (0, 0)) (by (with_reducible repeat (first | refine blk_drewN ?_ _ | refine blk_drew ?_ | refine blk_alloc ?_ _)); exact BK174.out) k_ hn_)), Or.elim hk_ (fun hs_ => ((Kd.R_types (Kd.R_types (Kd.R_types (Kd.R_types (HO156.out) BK158.out (by decide)) BK166.out (by decide)) BK174.out (by decide)) BK182.out (by decide)).1 k_ hs_.symm).2) (fun hn_ => (Kd.freshB (g := gb182) (o := .cells #[.int .i64 t175, .int .i64 t176, .int .i64 t177, .slice Ao56 t178.length co56] 66 (0, 0)) (by (with_reducible repeat (first | refine blk_drewN ?_ _ | refine blk_drew ?_ | refine blk_alloc ?_ _)); exact BK182.out) k_ hn_))⟩)) (below_size (by repeat (first | (with_reducible first | exact HB.out | apply below_alloc | apply pw_below_drewN | apply below_drew1 | refine below_set ?_ GE158.out | refine below_set ?_ GE166.out | refine below_set ?_ GE174.out | refine below_set ?_ GE182.out) | exact HB.out))))
            have n6_ := Aside0.mk (blk_below (g := gb158) (o := .cells #[.int .i64 t151, .int .i64 t152, .int .i64 t153, .slice Ao36 t154.length co36] 67 (0, 0)) (by (with_reducible repeat (first | refine blk_drewN ?_ _ | refine blk_drew ?_ | refine blk_alloc ?_ _)); exact BK158.out) hb)
            have n7_ := Aside0.mk (blk_below (g := gb166) (o := .cells #[.int .i64 t159, .int .i64 t160, .int .i64 t161, .slice Ao42 t162.length co42] 66 (0, 0)) (by (with_reducible repeat (first | refine blk_drewN ?_ _ | refine blk_drew ?_ | refine blk_alloc ?_ _)); exact BK166.out) hb)
            have n8_ := Aside0.mk (blk_below (g := gb174) (o := .cells #[.int .i64 t167, .int .i64 t168, .int .i64 t169, .slice Ao48 t170.length co48] 67 (0, 0)) (by (with_reducible repeat (first | refine blk_drewN ?_ _ | refine blk_drew ?_ | refine blk_alloc ?_ _)); exact BK174.out) hb)
            have n9_ := Aside0.mk (blk_below (g := gb182) (o := .cells #[.int .i64 t175, .int .i64 t176, .int .i64 t177, .slice Ao56 t178.length co56] 66 (0, 0)) (by (with_reducible repeat (first | refine blk_drewN ?_ _ | refine blk_drew ?_ | refine blk_alloc ?_ _)); exact BK182.out) hb)
            have n10_ := Aside0.mk (below_step (by repeat (first | (with_reducible first | exact HB.out | apply below_alloc | apply pw_below_drewN | apply below_drew1 | refine below_set ?_ GE158.out | refine below_set ?_ GE166.out | refine below_set ?_ GE174.out | refine below_set ?_ GE182.out) | exact HB.out)) hb)
            clear HO_0
            clear HO156
            clear HO164
            clear HO172
            clear HO180
            clear BK158
            clear BK166
            clear BK174
            clear BK182
            clear HB
            have HO_0 := n0_
            have HO156 := n1_
            have HO164 := n2_
            have HO172 := n3_
            have HO180 := n4_
            have HO188 := n5_
            have BK158 := n6_
            have BK166 := n7_
            have BK174 := n8_
            have BK182 := n9_
            have HB := n10_
            clear n0_ n1_ n2_ n3_ n4_ n5_ n6_ n7_ n8_ n9_ n10_
            (try clear hb)
            (try clear hb2)
            (try clear hk)
            (try clear hi)
            (try clear ho0)
            obtain ⟨Ao67, co67, eo67⟩ := Kd.V_slice HO188.out
            (first | subst eo67 | (injection eo67 with f1_ f2_ f3_; have f4_ := f1_.symm; have f5_ := f3_.symm; clear f1_ f2_ f3_; subst f4_; subst f5_))
            refine hK.out _ _ ⟨(blk_cell BK158.out 0).trans rfl, (blk_cell BK158.out 1).trans rfl, (blk_cell BK158.out 2).trans rfl, (blk_cell BK158.out 3).trans rfl, (blk_cell BK166.out 0).trans rfl, (blk_cell BK166.out 1).trans rfl, (blk_cell BK166.out 2).trans rfl, (blk_cell BK166.out 3).trans rfl, (blk_cell BK174.out 0).trans rfl, (blk_cell BK174.out 1).trans rfl, (blk_cell BK174.out 2).trans rfl, (blk_cell BK174.out 3).trans rfl, (blk_cell BK182.out 0).trans rfl, (blk_cell BK182.out 1).trans rfl, (blk_cell BK182.out 2).trans rfl, (blk_cell BK182.out 3).trans rfl⟩ (fun hHeld => ?_)
            clear hK K
            refine norm_ (a' := ?_) ?_ ?_
            rotate_left
            ·show Act.put _ (some 70) _ = _
             simp only [Act.put, List.setIfInBounds_toArray, List.set_cons_zero, List.set_cons_succ, i64_w, i32_w]
             rfl
            refine one_ (i := 12) (N := some 72) #[true, true, true, true, true, true, true, true, true, true, true, true, true, false, false, false, false, false, false, false, false, false] rfl rfl (one_of HT_.out (by kernel_rfl)) (by decide) (fun K hK => ?_)
            refine goes_ Try.func49 (by kernel_rfl) rfl #[.agg #[.int .i64 t183, .int .i64 t184, .int .i64 t185, .slice Ao67 t186.length co67], .agg #[.int .i64 t159, .int .i64 t160, .int .i64 t161, .slice Ao42 t162.length co42]] (by rfl) rfl rfl (by (try simp only [List.map_toArray, List.map_cons, List.map_nil]); first | done | rfl | (simp only [List.length_drop, List.length_take]; rfl)) ?_
            with_reducible refine (incipitref04_Same.calls kj8 t183 t184 t185 _ _ t186 t159 t160 t161 _ _ t162 true _ ?side1 ?side2 ?side3 ?side4 A60.out).mono ?_
            (case side1 => repeat (first | exact (Kd.V_reads' HO188.out).2.2 | (with_reducible refine Kd.C_alloc ?_ _) | (with_reducible refine Kd.C_drewN ?_ _) | (with_reducible refine Kd.C_drew ?_)))
            (case side2 => exact (Kd.V_reads' HO188.out).2.1)
            (case side3 => repeat (first | exact (Kd.V_reads' HO164.out).2.2 | (with_reducible refine Kd.C_alloc ?_ _) | (with_reducible refine Kd.C_drewN ?_ _) | (with_reducible refine Kd.C_drew ?_)))
            (case side4 => exact (Kd.V_reads' HO164.out).2.1)
            rintro e w68 ⟨rfl, hb⟩
            refine ⟨_, rfl, ?_⟩
            have n0_ := Aside0.mk (Kd.R_below (by (with_reducible repeat (first | apply Kd.R_alloc | apply Kd.R_drewN | apply Kd.R_drew)); exact HO_0.out) hb)
            have n1_ := Aside0.mk (Kd.R_below (by (with_reducible repeat (first | apply Kd.R_alloc | apply Kd.R_drewN | apply Kd.R_drew)); exact HO156.out) hb)
            have n2_ := Aside0.mk (Kd.V_below (by (with_reducible repeat (first | apply Kd.V_alloc | apply Kd.V_drewN | apply Kd.V_drew)); exact HO164.out) hb)
            have n3_ := Aside0.mk (Kd.R_below (by (with_reducible repeat (first | apply Kd.R_alloc | apply Kd.R_drewN | apply Kd.R_drew)); exact HO172.out) hb)
            have n4_ := Aside0.mk (Kd.V_below (by (with_reducible repeat (first | apply Kd.V_alloc | apply Kd.V_drewN | apply Kd.V_drew)); exact HO180.out) hb)
            have n5_ := Aside0.mk (Kd.V_below (by (with_reducible repeat (first | apply Kd.V_alloc | apply Kd.V_drewN | apply Kd.V_drew)); exact HO188.out) hb)
            have n6_ := Aside0.mk (blk_below (g := gb158) (o := .cells #[.int .i64 t151, .int .i64 t152, .int .i64 t153, .slice Ao36 t154.length co36] 67 (0, 0)) (by (with_reducible repeat (first | refine blk_drewN ?_ _ | refine blk_drew ?_ | refine blk_alloc ?_ _)); exact BK158.out) hb)
            have n7_ := Aside0.mk (blk_below (g := gb166) (o := .cells #[.int .i64 t159, .int .i64 t160, .int .i64 t161, .slice Ao42 t162.length co42] 66 (0, 0)) (by (with_reducible repeat (first | refine blk_drewN ?_ _ | refine blk_drew ?_ | refine blk_alloc ?_ _)); exact BK166.out) hb)
            have n8_ := Aside0.mk (blk_below (g := gb174) (o := .cells #[.int .i64 t167, .int .i64 t168, .int .i64 t169, .slice Ao48 t170.length co48] 67 (0, 0)) (by (with_reducible repeat (first | refine blk_drewN ?_ _ | refine blk_drew ?_ | refine blk_alloc ?_ _)); exact BK174.out) hb)
            have n9_ := Aside0.mk (blk_below (g := gb182) (o := .cells #[.int .i64 t175, .int .i64 t176, .int .i64 t177, .slice Ao56 t178.length co56] 66 (0, 0)) (by (with_reducible repeat (first | refine blk_drewN ?_ _ | refine blk_drew ?_ | refine blk_alloc ?_ _)); exact BK182.out) hb)
            have n10_ := Aside0.mk (below_step (by repeat (first | (with_reducible first | exact HB.out | apply below_alloc | apply pw_below_drewN | apply below_drew1 | refine below_set ?_ GE158.out | refine below_set ?_ GE166.out | refine below_set ?_ GE174.out | refine below_set ?_ GE182.out) | exact HB.out)) hb)
            clear HO_0
            clear HO156
            clear HO164
            clear HO172
            clear HO180
            clear HO188
            clear BK158
            clear BK166
            clear BK174
            clear BK182
            clear HB
            have HO_0 := n0_
            have HO156 := n1_
            have HO164 := n2_
            have HO172 := n3_
            have HO180 := n4_
            have HO188 := n5_
            have BK158 := n6_
            have BK166 := n7_
            have BK174 := n8_
            have BK182 := n9_
            have HB := n10_
            clear n0_ n1_ n2_ n3_ n4_ n5_ n6_ n7_ n8_ n9_ n10_
            (try clear hb)
            (try clear hb2)
            (try clear hk)
            (try clear hi)
            refine hK.out _ _ ⟨(blk_cell BK158.out 0).trans rfl, (blk_cell BK158.out 1).trans rfl, (blk_cell BK158.out 2).trans rfl, (blk_cell BK158.out 3).trans rfl, (blk_cell BK166.out 0).trans rfl, (blk_cell BK166.out 1).trans rfl, (blk_cell BK166.out 2).trans rfl, (blk_cell BK166.out 3).trans rfl, (blk_cell BK174.out 0).trans rfl, (blk_cell BK174.out 1).trans rfl, (blk_cell BK174.out 2).trans rfl, (blk_cell BK174.out 3).trans rfl, (blk_cell BK182.out 0).trans rfl, (blk_cell BK182.out 1).trans rfl, (blk_cell BK182.out 2).trans rfl, (blk_cell BK182.out 3).trans rfl⟩ (fun hHeld => ?_)
            clear hK K
            refine norm_ (a' := ?_) ?_ ?_
            rotate_left
            ·show Act.put _ (some 72) _ = _
             simp only [Act.put, List.setIfInBounds_toArray, List.set_cons_zero, List.set_cons_succ, i64_w, i32_w]
             rfl
            refine pure_ (i := 13) (N := some 73) (v := ?_) (a' := ?_) #[true, true, true, true, true, true, true, true, true, true, true, true, true, true, false, false, false, false, false, false, false, false] rfl rfl (any_of HT_.out (by kernel_rfl)) (fun _ _ _ h => h) (Or.inl ⟨by rfl, ?_⟩) ?_ ?_
            rotate_left
            ·intro w'
             go_simp
             with_reducible rfl
            rotate_left
            ·simp only [Act.put, List.setIfInBounds_toArray, List.set_cons_zero, List.set_cons_succ, i64_w, i32_w]
             rfl
            refine pure_ (i := 14) (N := some 74) (v := ?_) (a' := ?_) #[true, true, true, true, true, true, true, true, true, true, true, true, true, true, true, false, false, false, false, false, false, false] rfl rfl (any_of HT_.out (by kernel_rfl)) (fun _ _ _ h => h) (Or.inl ⟨by rfl, ?_⟩) ?_ ?_
            rotate_left
            ·intro w'
             go_simp
             with_reducible rfl
            rotate_left
            ·simp only [Act.put, List.setIfInBounds_toArray, List.set_cons_zero, List.set_cons_succ, i64_w, i32_w]
             rfl
            refine pure_ (i := 15) (N := some 75) (v := ?_) (a' := ?_) #[true, true, true, true, true, true, true, true, true, true, true, true, true, true, true, true, false, false, false, false, false, false] rfl rfl (any_of HT_.out (by kernel_rfl)) (fun _ _ _ h => h) (Or.inl ⟨by rfl, ?_⟩) ?_ ?_
            rotate_left
            ·intro w'
             go_simp
             with_reducible rfl
            rotate_left
            ·simp only [Act.put, List.setIfInBounds_toArray, List.set_cons_zero, List.set_cons_succ, i64_w, i32_w]
             rfl
            refine take_ (i := 16) (N := some 76) (v := ?_) (a' := ?_) #[true, true, true, true, true, true, true, true, true, true, true, true, true, true, true, true, true, false, false, false, false, false] rfl rfl (take_ofW HT_.out HW_.out (by kernel_rfl)) (fun _ _ _ h => h) (Or.inl ⟨by rfl, ?_⟩) hHeld ?_ ?_
            rotate_left
            ·rintro w' ⟨s0, s1, s2, s3, s4, s5, s6, s7, s8, s9, s10, s11, s12, s13, s14, s15⟩
             go_simp
             with_reducible rfl
            rotate_left
            ·simp only [Act.put, List.setIfInBounds_toArray, List.set_cons_zero, List.set_cons_succ, i64_w, i32_w]
             rfl
            refine take_ (i := 18) (N := some 78) (v := ?_) (a' := ?_) #[true, true, true, true, true, true, true, true, true, true, true, true, true, true, true, true, true, false, true, false, false, false] rfl rfl (take_ofW HT_.out HW_.out (by kernel_rfl)) (fun _ _ _ h => h) (Or.inl ⟨by rfl, ?_⟩) hHeld ?_ ?_
            rotate_left
            ·rintro w' ⟨s0, s1, s2, s3, s4, s5, s6, s7, s8, s9, s10, s11, s12, s13, s14, s15⟩
             go_simp
             with_reducible rfl
            rotate_left
            ·simp only [Act.put, List.setIfInBounds_toArray, List.set_cons_zero, List.set_cons_succ, i64_w, i32_w]
             rfl
            refine one_ (i := 17) (N := some 77) #[true, true, true, true, true, true, true, true, true, true, true, true, true, true, true, true, true, true, true, false, false, false] rfl rfl (one_of HT_.out (by kernel_rfl)) (by decide) (fun K hK => ?_)
            refine goes_ Try.func37 (by kernel_rfl) rfl #[.agg #[.int .i64 t167, .int .i64 t168, .int .i64 t169, .slice Ao48 t170.length co48]] (by rfl) rfl rfl (by (try simp only [List.map_toArray, List.map_cons, List.map_nil]); first | done | rfl | (simp only [List.length_drop, List.length_take]; rfl)) ?_
            with_reducible refine (incipitlaw04_Of.calls t167 t168 t169 (fun k_ => some k_ = (.slice Ao48 t170.length co48 : Value).ownBlock) _ _ t170 t190 t191 t192 t193 _ ?side1 A62.out).mono ?_
            (case side1 => exact Kd.R_V (Kd.R_tight rfl (Kd.R_types (Kd.R_types (Kd.R_types (Kd.R_types (HO172.out) BK158.out (by decide)) BK166.out (by decide)) BK174.out (by decide)) BK182.out (by decide))))
            rintro e w69 ⟨v194, rfl, ho0, hb⟩
            refine ⟨_, rfl, ?_⟩
            have n0_ := Aside0.mk (Kd.R_below (by (with_reducible repeat (first | apply Kd.R_alloc | apply Kd.R_drewN | apply Kd.R_drew)); exact HO_0.out) hb)
            have n1_ := Aside0.mk (Kd.R_below (by (with_reducible repeat (first | apply Kd.R_alloc | apply Kd.R_drewN | apply Kd.R_drew)); exact HO156.out) hb)
            have n2_ := Aside0.mk (Kd.V_below (by (with_reducible repeat (first | apply Kd.V_alloc | apply Kd.V_drewN | apply Kd.V_drew)); exact HO164.out) hb)
            have n3_ := Aside0.mk (Kd.R_below (by (with_reducible repeat (first | apply Kd.R_alloc | apply Kd.R_drewN | apply Kd.R_drew)); exact HO172.out) hb)
            have n4_ := Aside0.mk (Kd.V_below (by (with_reducible repeat (first | apply Kd.V_alloc | apply Kd.V_drewN | apply Kd.V_drew)); exact HO180.out) hb)
            have n5_ := Aside0.mk (Kd.V_below (by (with_reducible repeat (first | apply Kd.V_alloc | apply Kd.V_drewN | apply Kd.V_drew)); exact HO188.out) hb)
            have n6_ := Aside0.mk (Kd.V_lower (Kd.V_mono (ok' := fun k_ => some k_ ≠ (.slice Ao32 x0_8.length co32 : Value).ownBlock ∧ some k_ ≠ (.slice Ao36 t154.length co36 : Value).ownBlock ∧ k_ ≠ gb158 ∧ k_ ≠ gb166 ∧ k_ ≠ gb174 ∧ k_ ≠ gb182) ho0 (fun k_ hk_ => ⟨Or.elim hk_ (fun hs_ => ((Kd.R_types (Kd.R_types (Kd.R_types (Kd.R_types (HO172.out) BK158.out (by decide)) BK166.out (by decide)) BK174.out (by decide)) BK182.out (by decide)).1 k_ hs_.symm).1.1.1.1.1) (fun hn_ => (Kd.fresh' (Kd.R_lt (by (with_reducible repeat (first | apply Kd.R_alloc | apply Kd.R_drewN | apply Kd.R_drew)); exact HO_0.out)) k_ hn_)), Or.elim hk_ (fun hs_ => ((Kd.R_types (Kd.R_types (Kd.R_types (Kd.R_types (HO172.out) BK158.out (by decide)) BK166.out (by decide)) BK174.out (by decide)) BK182.out (by decide)).1 k_ hs_.symm).1.1.1.1.2) (fun hn_ => (Kd.fresh' (Kd.R_lt (by (with_reducible repeat (first | apply Kd.R_alloc | apply Kd.R_drewN | apply Kd.R_drew)); exact HO156.out)) k_ hn_)), Or.elim hk_ (fun hs_ => ((Kd.R_types (Kd.R_types (Kd.R_types (Kd.R_types (HO172.out) BK158.out (by decide)) BK166.out (by decide)) BK174.out (by decide)) BK182.out (by decide)).1 k_ hs_.symm).1.1.1.2) (fun hn_ => (Kd.freshB (g := gb158) (o := .cells #[.int .i64 t151, .int .i64 t152, .int .i64 t153, .slice Ao36 t154.length co36] 67 (0, 0)) (by (with_reducible repeat (first | refine blk_drewN ?_ _ | refine blk_drew ?_ | refine blk_alloc ?_ _)); exact BK158.out) k_ hn_)), Or.elim hk_ (fun hs_ => ((Kd.R_types (Kd.R_types (Kd.R_types (Kd.R_types (HO172.out) BK158.out (by decide)) BK166.out (by decide)) BK174.out (by decide)) BK182.out (by decide)).1 k_ hs_.symm).1.1.2) (fun hn_ => (Kd.freshB (g := gb166) (o := .cells #[.int .i64 t159, .int .i64 t160, .int .i64 t161, .slice Ao42 t162.length co42] 66 (0, 0)) (by (with_reducible repeat (first | refine blk_drewN ?_ _ | refine blk_drew ?_ | refine blk_alloc ?_ _)); exact BK166.out) k_ hn_)), Or.elim hk_ (fun hs_ => ((Kd.R_types (Kd.R_types (Kd.R_types (Kd.R_types (HO172.out) BK158.out (by decide)) BK166.out (by decide)) BK174.out (by decide)) BK182.out (by decide)).1 k_ hs_.symm).1.2) (fun hn_ => (Kd.freshB (g := gb174) (o := .cells #[.int .i64 t167, .int .i64 t168, .int .i64 t169, .slice Ao48 t170.length co48] 67 (0, 0)) (by (with_reducible repeat (first | refine blk_drewN ?_ _ | refine blk_drew ?_ | refine blk_alloc ?_ _)); exact BK174.out) k_ hn_)), Or.elim hk_ (fun hs_ => ((Kd.R_types (Kd.R_types (Kd.R_types (Kd.R_types (HO172.out) BK158.out (by decide)) BK166.out (by decide)) BK174.out (by decide)) BK182.out (by decide)).1 k_ hs_.symm).2) (fun hn_ => (Kd.freshB (g := gb182) (o := .cells #[.int .i64 t175, .int .i64 t176, .int .i64 t177, .slice Ao56 t178.length co56] 66 (0, 0)) (by (with_reducible repeat (first | refine blk_drewN ?_ _ | refine blk_drew ?_ | refine blk_alloc ?_ _)); exact BK182.out) k_ hn_))⟩)) (below_size (by repeat (first | (with_reducible first | exact HB.out | apply below_alloc | apply pw_below_drewN | apply below_drew1 | refine below_set ?_ GE158.out | refine below_set ?_ GE166.out | refine below_set ?_ GE174.out | refine below_set ?_ GE182.out) | exact HB.out))))
            have n7_ := Aside0.mk (blk_below (g := gb158) (o := .cells #[.int .i64 t151, .int .i64 t152, .int .i64 t153, .slice Ao36 t154.length co36] 67 (0, 0)) (by (with_reducible repeat (first | refine blk_drewN ?_ _ | refine blk_drew ?_ | refine blk_alloc ?_ _)); exact BK158.out) hb)
            have n8_ := Aside0.mk (blk_below (g := gb166) (o := .cells #[.int .i64 t159, .int .i64 t160, .int .i64 t161, .slice Ao42 t162.length co42] 66 (0, 0)) (by (with_reducible repeat (first | refine blk_drewN ?_ _ | refine blk_drew ?_ | refine blk_alloc ?_ _)); exact BK166.out) hb)
            have n9_ := Aside0.mk (blk_below (g := gb174) (o := .cells #[.int .i64 t167, .int .i64 t168, .int .i64 t169, .slice Ao48 t170.length co48] 67 (0, 0)) (by (with_reducible repeat (first | refine blk_drewN ?_ _ | refine blk_drew ?_ | refine blk_alloc ?_ _)); exact BK174.out) hb)
            have n10_ := Aside0.mk (blk_below (g := gb182) (o := .cells #[.int .i64 t175, .int .i64 t176, .int .i64 t177, .slice Ao56 t178.length co56] 66 (0, 0)) (by (with_reducible repeat (first | refine blk_drewN ?_ _ | refine blk_drew ?_ | refine blk_alloc ?_ _)); exact BK182.out) hb)
            have n11_ := Aside0.mk (below_step (by repeat (first | (with_reducible first | exact HB.out | apply below_alloc | apply pw_below_drewN | apply below_drew1 | refine below_set ?_ GE158.out | refine below_set ?_ GE166.out | refine below_set ?_ GE174.out | refine below_set ?_ GE182.out) | exact HB.out)) hb)
            clear HO_0
            clear HO156
            clear HO164
            clear HO172
            clear HO180
            clear HO188
            clear BK158
            clear BK166
            clear BK174
            clear BK182
            clear HB
            have HO_0 := n0_
            have HO156 := n1_
            have HO164 := n2_
            have HO172 := n3_
            have HO180 := n4_
            have HO188 := n5_
            have HO195 := n6_
            have BK158 := n7_
            have BK166 := n8_
            have BK174 := n9_
            have BK182 := n10_
            have HB := n11_
            clear n0_ n1_ n2_ n3_ n4_ n5_ n6_ n7_ n8_ n9_ n10_ n11_
            (try clear hb)
            (try clear hb2)
            (try clear hk)
            (try clear hi)
            (try clear ho0)
            obtain ⟨Ao70, co70, eo70⟩ := Kd.V_slice HO195.out
            (first | subst eo70 | (injection eo70 with f1_ f2_ f3_; have f4_ := f1_.symm; have f5_ := f3_.symm; clear f1_ f2_ f3_; subst f4_; subst f5_))
            refine hK.out _ _ ⟨(blk_cell BK158.out 0).trans rfl, (blk_cell BK158.out 1).trans rfl, (blk_cell BK158.out 2).trans rfl, (blk_cell BK158.out 3).trans rfl, (blk_cell BK166.out 0).trans rfl, (blk_cell BK166.out 1).trans rfl, (blk_cell BK166.out 2).trans rfl, (blk_cell BK166.out 3).trans rfl, (blk_cell BK174.out 0).trans rfl, (blk_cell BK174.out 1).trans rfl, (blk_cell BK174.out 2).trans rfl, (blk_cell BK174.out 3).trans rfl, (blk_cell BK182.out 0).trans rfl, (blk_cell BK182.out 1).trans rfl, (blk_cell BK182.out 2).trans rfl, (blk_cell BK182.out 3).trans rfl⟩ (fun hHeld => ?_)
            clear hK K
            refine norm_ (a' := ?_) ?_ ?_
            rotate_left
            ·show Act.put _ (some 77) _ = _
             simp only [Act.put, List.setIfInBounds_toArray, List.set_cons_zero, List.set_cons_succ, i64_w, i32_w]
             rfl
            refine one_ (i := 19) (N := some 79) #[true, true, true, true, true, true, true, true, true, true, true, true, true, true, true, true, true, true, true, true, false, false] rfl rfl (one_of HT_.out (by kernel_rfl)) (by decide) (fun K hK => ?_)
            refine goes_ Try.func49 (by kernel_rfl) rfl #[.agg #[.int .i64 t190, .int .i64 t191, .int .i64 t192, .slice Ao70 t193.length co70], .agg #[.int .i64 t175, .int .i64 t176, .int .i64 t177, .slice Ao56 t178.length co56]] (by rfl) rfl rfl (by (try simp only [List.map_toArray, List.map_cons, List.map_nil]); first | done | rfl | (simp only [List.length_drop, List.length_take]; rfl)) ?_
            with_reducible refine (incipitref04_Same.calls kj8 t190 t191 t192 _ _ t193 t175 t176 t177 _ _ t178 t196 _ ?side1 ?side2 ?side3 ?side4 A63.out).mono ?_
            (case side1 => repeat (first | exact (Kd.V_reads' HO195.out).2.2 | (with_reducible refine Kd.C_alloc ?_ _) | (with_reducible refine Kd.C_drewN ?_ _) | (with_reducible refine Kd.C_drew ?_)))
            (case side2 => exact (Kd.V_reads' HO195.out).2.1)
            (case side3 => repeat (first | exact (Kd.V_reads' HO180.out).2.2 | (with_reducible refine Kd.C_alloc ?_ _) | (with_reducible refine Kd.C_drewN ?_ _) | (with_reducible refine Kd.C_drew ?_)))
            (case side4 => exact (Kd.V_reads' HO180.out).2.1)
            rintro e w71 ⟨rfl, hb⟩
            refine ⟨_, rfl, ?_⟩
            have n0_ := Aside0.mk (Kd.R_below (by (with_reducible repeat (first | apply Kd.R_alloc | apply Kd.R_drewN | apply Kd.R_drew)); exact HO_0.out) hb)
            have n1_ := Aside0.mk (Kd.R_below (by (with_reducible repeat (first | apply Kd.R_alloc | apply Kd.R_drewN | apply Kd.R_drew)); exact HO156.out) hb)
            have n2_ := Aside0.mk (Kd.V_below (by (with_reducible repeat (first | apply Kd.V_alloc | apply Kd.V_drewN | apply Kd.V_drew)); exact HO164.out) hb)
            have n3_ := Aside0.mk (Kd.R_below (by (with_reducible repeat (first | apply Kd.R_alloc | apply Kd.R_drewN | apply Kd.R_drew)); exact HO172.out) hb)
            have n4_ := Aside0.mk (Kd.V_below (by (with_reducible repeat (first | apply Kd.V_alloc | apply Kd.V_drewN | apply Kd.V_drew)); exact HO180.out) hb)
            have n5_ := Aside0.mk (Kd.V_below (by (with_reducible repeat (first | apply Kd.V_alloc | apply Kd.V_drewN | apply Kd.V_drew)); exact HO188.out) hb)
            have n6_ := Aside0.mk (Kd.V_below (by (with_reducible repeat (first | apply Kd.V_alloc | apply Kd.V_drewN | apply Kd.V_drew)); exact HO195.out) hb)
            have n7_ := Aside0.mk (blk_below (g := gb158) (o := .cells #[.int .i64 t151, .int .i64 t152, .int .i64 t153, .slice Ao36 t154.length co36] 67 (0, 0)) (by (with_reducible repeat (first | refine blk_drewN ?_ _ | refine blk_drew ?_ | refine blk_alloc ?_ _)); exact BK158.out) hb)
            have n8_ := Aside0.mk (blk_below (g := gb166) (o := .cells #[.int .i64 t159, .int .i64 t160, .int .i64 t161, .slice Ao42 t162.length co42] 66 (0, 0)) (by (with_reducible repeat (first | refine blk_drewN ?_ _ | refine blk_drew ?_ | refine blk_alloc ?_ _)); exact BK166.out) hb)
            have n9_ := Aside0.mk (blk_below (g := gb174) (o := .cells #[.int .i64 t167, .int .i64 t168, .int .i64 t169, .slice Ao48 t170.length co48] 67 (0, 0)) (by (with_reducible repeat (first | refine blk_drewN ?_ _ | refine blk_drew ?_ | refine blk_alloc ?_ _)); exact BK174.out) hb)
            have n10_ := Aside0.mk (blk_below (g := gb182) (o := .cells #[.int .i64 t175, .int .i64 t176, .int .i64 t177, .slice Ao56 t178.length co56] 66 (0, 0)) (by (with_reducible repeat (first | refine blk_drewN ?_ _ | refine blk_drew ?_ | refine blk_alloc ?_ _)); exact BK182.out) hb)
            have n11_ := Aside0.mk (below_step (by repeat (first | (with_reducible first | exact HB.out | apply below_alloc | apply pw_below_drewN | apply below_drew1 | refine below_set ?_ GE158.out | refine below_set ?_ GE166.out | refine below_set ?_ GE174.out | refine below_set ?_ GE182.out) | exact HB.out)) hb)
            clear HO_0
            clear HO156
            clear HO164
            clear HO172
            clear HO180
            clear HO188
            clear HO195
            clear BK158
            clear BK166
            clear BK174
            clear BK182
            clear HB
            have HO_0 := n0_
            have HO156 := n1_
            have HO164 := n2_
            have HO172 := n3_
            have HO180 := n4_
            have HO188 := n5_
            have HO195 := n6_
            have BK158 := n7_
            have BK166 := n8_
            have BK174 := n9_
            have BK182 := n10_
            have HB := n11_
            clear n0_ n1_ n2_ n3_ n4_ n5_ n6_ n7_ n8_ n9_ n10_ n11_
            (try clear hb)
            (try clear hb2)
            (try clear hk)
            (try clear hi)
            refine hK.out _ _ ⟨(blk_cell BK158.out 0).trans rfl, (blk_cell BK158.out 1).trans rfl, (blk_cell BK158.out 2).trans rfl, (blk_cell BK158.out 3).trans rfl, (blk_cell BK166.out 0).trans rfl, (blk_cell BK166.out 1).trans rfl, (blk_cell BK166.out 2).trans rfl, (blk_cell BK166.out 3).trans rfl, (blk_cell BK174.out 0).trans rfl, (blk_cell BK174.out 1).trans rfl, (blk_cell BK174.out 2).trans rfl, (blk_cell BK174.out 3).trans rfl, (blk_cell BK182.out 0).trans rfl, (blk_cell BK182.out 1).trans rfl, (blk_cell BK182.out 2).trans rfl, (blk_cell BK182.out 3).trans rfl⟩ (fun hHeld => ?_)
            clear hK K
            refine norm_ (a' := ?_) ?_ ?_
            rotate_left
            ·show Act.put _ (some 79) _ = _
             simp only [Act.put, List.setIfInBounds_toArray, List.set_cons_zero, List.set_cons_succ, i64_w, i32_w]
             rfl
            refine pure_ (i := 20) (N := some 80) (v := ?_) (a' := ?_) #[true, true, true, true, true, true, true, true, true, true, true, true, true, true, true, true, true, true, true, true, true, false] rfl rfl (any_of HT_.out (by kernel_rfl)) (fun _ _ _ h => h) (Or.inl ⟨by rfl, ?_⟩) ?_ ?_
            rotate_left
            ·intro w'
             go_simp
             with_reducible rfl
            rotate_left
            ·simp only [Act.put, List.setIfInBounds_toArray, List.set_cons_zero, List.set_cons_succ, i64_w, i32_w]
             rfl
            refine pure_ (i := 21) (N := some 81) (v := ?_) (a' := ?_) #[true, true, true, true, true, true, true, true, true, true, true, true, true, true, true, true, true, true, true, true, true, true] rfl rfl (any_of HT_.out (by kernel_rfl)) (fun _ _ _ h => h) (Or.inl ⟨by rfl, ?_⟩) ?_ ?_
            rotate_left
            ·intro w'
             go_simp
             with_reducible rfl
            rotate_left
            ·simp only [Act.put, List.setIfInBounds_toArray, List.set_cons_zero, List.set_cons_succ, i64_w, i32_w]
             rfl
            refine done_ (done_of HT_.out (by kernel_rfl)) ?_
            try go_wp2
            go_meet
            case rel => exact ⟨_, (!t196), (by first | rfl | (simp; done) | (simp [*]; done)), H', ⟨by have := HJ8.out; first | omega | exact Nat.le_refl _⟩, ⟨by (with_reducible repeat (first | apply Kd.R_alloc | apply Kd.R_drewN | apply Kd.R_drew)); exact HO_0.out⟩, ⟨by (with_reducible repeat (first | apply Kd.R_alloc | apply Kd.R_drewN | apply Kd.R_drew)); exact HO156.out⟩, ⟨by (with_reducible repeat (first | apply Kd.V_alloc | apply Kd.V_drewN | apply Kd.V_drew)); exact HO164.out⟩, ⟨by (with_reducible repeat (first | apply Kd.R_alloc | apply Kd.R_drewN | apply Kd.R_drew)); exact HO172.out⟩, ⟨by (with_reducible repeat (first | apply Kd.V_alloc | apply Kd.V_drewN | apply Kd.V_drew)); exact HO180.out⟩, ⟨by (with_reducible repeat (first | refine blk_drewN ?_ _ | refine blk_drew ?_ | refine blk_alloc ?_ _)); exact BK158.out⟩, ⟨by (with_reducible repeat (first | refine blk_drewN ?_ _ | refine blk_drew ?_ | refine blk_alloc ?_ _)); exact BK166.out⟩, ⟨by (with_reducible repeat (first | refine blk_drewN ?_ _ | refine blk_drew ?_ | refine blk_alloc ?_ _)); exact BK174.out⟩, ⟨by (with_reducible repeat (first | refine blk_drewN ?_ _ | refine blk_drew ?_ | refine blk_alloc ?_ _)); exact BK182.out⟩, ⟨by repeat (first | (with_reducible first | exact HB.out | apply below_alloc | apply pw_below_drewN | apply below_drew1 | refine below_set ?_ GE158.out | refine below_set ?_ GE166.out | refine below_set ?_ GE174.out | refine below_set ?_ GE182.out) | exact HB.out)⟩⟩
           ·replace c61 := Bool.eq_false_iff.mpr c61
            subst c61
            have H1 : (incipitlaw04_FrameReads.j1 kj8 x0_8 t165 true t151 t152 t153 t154) = some r := by rw [if_neg (show ¬ (false = true) by decide)] at H; exact H
            clear H
            have H := H1
            clear H1
            exact absurd (HR_.out ▸ H) (by generalize kj8 = k_; cases k_ <;> simp [incipitlaw04_FrameReads.j1])
          ·rw [if_neg c58] at H
           have c58b0 : (t173 == t181) = false := beq_eq_false_iff_ne.mpr c58
           have c58b1 : (t173 != t181) = true := bne_iff_ne.mpr c58
           exact absurd (HR_.out ▸ H) (by generalize kj8 = k_; cases k_ <;> simp [incipitlaw04_FrameReads.j1])
         ·rw [if_neg c57] at H
          have c57b0 : (t157 == t165) = false := beq_eq_false_iff_ne.mpr c57
          have c57b1 : (t157 != t165) = true := bne_iff_ne.mpr c57
          (first | rw [c57b0] | (simp only [i64_w, i32_w]; rw [c57b0]) | skip)
          exact absurd (HR_.out ▸ H) (by generalize kj8 = k_; cases k_ <;> simp [incipitlaw04_FrameReads.j1])
        case rest =>
         clear HC30
         try clear c1
         try clear c2
         try clear p2
         try clear q2
         try clear c3
         try clear c4
         try clear c5
         try clear c6
         try clear c6b0
         try clear c6b1
         try clear c7
         try clear c7b0
         try clear c7b1
         try clear c8
         try clear c9
         try clear c14
         try clear c16
         try clear c16b0
         try clear c16b1
         try clear c20
         try clear q20
         try clear c24
         try clear c24b0
         try clear c24b1
         try clear c25
         try clear c25b0
         try clear c25b1
         try clear c37
         try clear c40
         try clear c43
         try clear c45
         try clear c46
         try clear c47
         try clear c48
         try clear c49
         try clear c52
         try clear c53
         try clear c54
         try clear c57
         try clear c57b0
         try clear c57b1
         try clear c58
         try clear c58b0
         try clear c58b1
         try clear c61
         try clear hcz35_0
         try clear hcz35_1
         try clear hcz35_2
         try clear hcz35_3
         try clear hcz41_0
         try clear hcz41_1
         try clear hcz41_2
         try clear hcz41_3
         try clear hcz47_0
         try clear hcz47_1
         try clear hcz47_2
         try clear hcz47_3
         try clear hcz55_0
         try clear hcz55_1
         try clear hcz55_2
         try clear hcz55_3
         try clear hfz35_0
         try clear hfz35_1
         try clear hfz35_2
         try clear hfz35_3
         try clear hfz41_0
         try clear hfz41_1
         try clear hfz41_2
         try clear hfz41_3
         try clear hfz47_0
         try clear hfz47_1
         try clear hfz47_2
         try clear hfz47_3
         try clear hfz55_0
         try clear hfz55_1
         try clear hfz55_2
         try clear hfz55_3
         try clear p2
         try clear q2
         try clear q20
         obtain ⟨kq, x81_29, rfl, HA, HJ29, HO_0, HO_159003, HO_167003, HO_175003, HO_183003, BK158, BK166, BK174, BK182, HB⟩ := hcut
         cases kq with
         | zero => exact absurd HA.out (by simp [incipitlaw04_FrameReads.j1])
         | succ kj29 =>
          have H := HA.out
          clear HA
          simp only [incipitlaw04_FrameReads.j1] at H
          by_cases c72 : x81_29 = true
          ·subst c72
           have H1 : (some false) = some r := by rw [if_pos rfl] at H; exact H
           clear H
           have H := H1
           clear H1
           exact absurd (HR_.out ▸ H) (by simp)
          ·replace c72 := Bool.eq_false_iff.mpr c72
           subst c72
           have H1 : (if t165 = 0 then ((frame_Encode.f t151 t152 t153 t154).bind fun bt197 => ((incipitlaw04_known.f).bind fun t201 => (if t201 = true then (if bt197.2 = 0 then ((incipitref01_Same.f kj29 bt197.1 x0_8).bind fun t202 => (some t202)) else (some false)) else (some false)))) else ((incipitlaw04_known.f).bind fun t203 => (some t203))) = some r := by rw [if_neg (show ¬ (false = true) by decide)] at H; exact H
           clear H
           have H := H1
           clear H1
           by_cases c73 : t165 = 0
           ·rw [if_pos c73] at H
            have c73b0 : (t165 == 0) = true := beq_iff_eq.mpr c73
            have c73b1 : (t165 != 0) = false := bne_eq_false_iff_eq.mpr c73
            clear c73
            replace H := Option.bind_eq_some_iff.mp H
            obtain ⟨⟨t197, t200⟩, A740, H⟩ := H
            replace H : ((incipitlaw04_known.f).bind fun t201 => (if t201 = true then (if t200 = 0 then ((incipitref01_Same.f kj29 t197 x0_8).bind fun t202 => (some t202)) else (some false)) else (some false))) = some r := H
            have A74 := Aside0.mk A740
            clear A740
            replace H := Option.bind_eq_some_iff.mp H
            obtain ⟨t201, A750, H⟩ := H
            replace H : (if t201 = true then (if t200 = 0 then ((incipitref01_Same.f kj29 t197 x0_8).bind fun t202 => (some t202)) else (some false)) else (some false)) = some r := H
            have A75 := Aside0.mk A750
            clear A750
            by_cases c76 : t201 = true
            ·subst c76
             have H1 : (if t200 = 0 then ((incipitref01_Same.f kj29 t197 x0_8).bind fun t202 => (some t202)) else (some false)) = some r := by rw [if_pos rfl] at H; exact H
             clear H
             have H := H1
             clear H1
             by_cases c77 : t200 = 0
             ·rw [if_pos c77] at H
              have c77b0 : (t200 == 0) = true := beq_iff_eq.mpr c77
              have c77b1 : (t200 != 0) = false := bne_eq_false_iff_eq.mpr c77
              clear c77
              replace H := Option.bind_eq_some_iff.mp H
              obtain ⟨t202, A780, H⟩ := H
              replace H : (some t202) = some r := H
              have A78 := Aside0.mk A780
              clear A780
              obtain rfl := Option.some.inj H
              have hnb79 := NB158_166.out
              have hnc79 := NB166_158.out
              have hnb80 := NB158_174.out
              have hnc80 := NB174_158.out
              have hnb81 := NB158_182.out
              have hnc81 := NB182_158.out
              have hcz82_0 : wc.cell? ⟨gb158, 0, none⟩ = some (.int .i64 t151) := (blk_cell BK158.out 0).trans rfl
              have hcz82_1 : wc.cell? ⟨gb158, 1, none⟩ = some (.int .i64 t152) := (blk_cell BK158.out 1).trans rfl
              have hcz82_2 : wc.cell? ⟨gb158, 2, none⟩ = some (.int .i64 t153) := (blk_cell BK158.out 2).trans rfl
              have hcz82_3 : wc.cell? ⟨gb158, 3, none⟩ = some (.slice Ao36 t154.length co36) := (blk_cell BK158.out 3).trans rfl
              have hfz82_0 := blk_frozen BK158.out 0
              have hfz82_1 := blk_frozen BK158.out 1
              have hfz82_2 := blk_frozen BK158.out 2
              have hfz82_3 := blk_frozen BK158.out 3
              go_wp2_with (first | ((with_reducible refine gate_callee (f := 38) rfl ?_); refine goesL_ (some 87) rfl rfl Try.func38 (by kernel_rfl) rfl #[.agg #[.int .i64 t151, .int .i64 t152, .int .i64 t153, .slice Ao36 t154.length co36]] rfl (by (try simp only [List.map_toArray, List.map_cons, List.map_nil]); first | done | rfl | (simp only [List.length_drop, List.length_take]; rfl)) ?_; (with_reducible refine (frame_Encode.calls t151 t152 t153 _ _ t154 t197 t200 _ ?side1 ?side2 A74.out).mono ?_); (case side1 => repeat (first | exact (Kd.R_reads' HO_159003.out).2.2 | (with_reducible refine Kd.C_alloc ?_ _) | (with_reducible refine Kd.C_drewN ?_ _) | (with_reducible refine Kd.C_drew ?_))); (case side2 => exact (Kd.R_reads' HO_159003.out).2.1); rintro e w83 ⟨v198, rfl, ho0, hb⟩; refine ⟨_, rfl, ?_⟩; have n0_ := Aside0.mk (Kd.R_elder' (by (with_reducible repeat (first | apply Kd.R_alloc | apply Kd.R_drewN | apply Kd.R_drew)); exact HO_0.out) (Kd.R_base ho0) hb); have n1_ := Aside0.mk (Kd.R_elder' (by (with_reducible repeat (first | apply Kd.R_alloc | apply Kd.R_drewN | apply Kd.R_drew)); exact HO_159003.out) (Kd.R_base ho0) hb); have n2_ := Aside0.mk (Kd.V_elder' (by (with_reducible repeat (first | apply Kd.V_alloc | apply Kd.V_drewN | apply Kd.V_drew)); exact HO_167003.out) (Kd.R_base ho0) hb); have n3_ := Aside0.mk (Kd.R_elder' (by (with_reducible repeat (first | apply Kd.R_alloc | apply Kd.R_drewN | apply Kd.R_drew)); exact HO_175003.out) (Kd.R_base ho0) hb); have n4_ := Aside0.mk (Kd.V_elder' (by (with_reducible repeat (first | apply Kd.V_alloc | apply Kd.V_drewN | apply Kd.V_drew)); exact HO_183003.out) (Kd.R_base ho0) hb); have n5_ := Aside0.mk (Kd.R_lower (Kd.R_new' (Kd.R_new' (Kd.R_new' ho0 (Kd.R_lt (by (with_reducible repeat (first | apply Kd.R_alloc | apply Kd.R_drewN | apply Kd.R_drew)); exact HO_0.out))) (Kd.R_lt (by (with_reducible repeat (first | apply Kd.R_alloc | apply Kd.R_drewN | apply Kd.R_drew)); exact HO_159003.out))) (Kd.R_lt (by (with_reducible repeat (first | apply Kd.R_alloc | apply Kd.R_drewN | apply Kd.R_drew)); exact HO_175003.out))) (below_size (by repeat (first | (with_reducible first | exact HB.out | apply below_alloc | apply pw_below_drewN | apply below_drew1 | refine below_set ?_ GE158.out | refine below_set ?_ GE166.out | refine below_set ?_ GE174.out | refine below_set ?_ GE182.out) | exact HB.out)))); have n6_ := Aside0.mk (blk_below (g := gb158) (o := .cells #[.int .i64 t151, .int .i64 t152, .int .i64 t153, .slice Ao36 t154.length co36] 67 (0, 0)) (by (with_reducible repeat (first | refine blk_drewN ?_ _ | refine blk_drew ?_ | refine blk_alloc ?_ _)); exact BK158.out) hb); have n7_ := Aside0.mk (blk_below (g := gb166) (o := .cells #[.int .i64 t159, .int .i64 t160, .int .i64 t161, .slice Ao42 t162.length co42] 66 (0, 0)) (by (with_reducible repeat (first | refine blk_drewN ?_ _ | refine blk_drew ?_ | refine blk_alloc ?_ _)); exact BK166.out) hb); have n8_ := Aside0.mk (blk_below (g := gb174) (o := .cells #[.int .i64 t167, .int .i64 t168, .int .i64 t169, .slice Ao48 t170.length co48] 67 (0, 0)) (by (with_reducible repeat (first | refine blk_drewN ?_ _ | refine blk_drew ?_ | refine blk_alloc ?_ _)); exact BK174.out) hb); have n9_ := Aside0.mk (blk_below (g := gb182) (o := .cells #[.int .i64 t175, .int .i64 t176, .int .i64 t177, .slice Ao56 t178.length co56] 66 (0, 0)) (by (with_reducible repeat (first | refine blk_drewN ?_ _ | refine blk_drew ?_ | refine blk_alloc ?_ _)); exact BK182.out) hb); have n10_ := Aside0.mk (below_step (by repeat (first | (with_reducible first | exact HB.out | apply below_alloc | apply pw_below_drewN | apply below_drew1 | refine below_set ?_ GE158.out | refine below_set ?_ GE166.out | refine below_set ?_ GE174.out | refine below_set ?_ GE182.out) | exact HB.out)) hb); clear HO_0; clear HO_159003; clear HO_167003; clear HO_175003; clear HO_183003; clear BK158; clear BK166; clear BK174; clear BK182; clear HB; have HO_0 := n0_; have HO_159003 := n1_; have HO_167003 := n2_; have HO_175003 := n3_; have HO_183003 := n4_; have HO199 := n5_; have BK158 := n6_; have BK166 := n7_; have BK174 := n8_; have BK182 := n9_; have HB := n10_; clear n0_ n1_ n2_ n3_ n4_ n5_ n6_ n7_ n8_ n9_ n10_; (try clear hb); (try clear hb2); (try clear hk); (try clear hi); (try clear ho0)) | ((with_reducible refine gate_callee (f := 42) rfl ?_); refine goesL_ (some 90) rfl rfl Try.func42 (by kernel_rfl) rfl #[] rfl (by (try simp only [List.map_toArray, List.map_cons, List.map_nil]); first | done | rfl | (simp only [List.length_drop, List.length_take]; rfl)) ?_; (with_reducible refine (incipitlaw04_known.calls  true _ A75.out).mono ?_); rintro e w84 ⟨rfl, hb⟩; refine ⟨_, rfl, ?_⟩; have n0_ := Aside0.mk (Kd.R_below (by (with_reducible repeat (first | apply Kd.R_alloc | apply Kd.R_drewN | apply Kd.R_drew)); exact HO_0.out) hb); have n1_ := Aside0.mk (Kd.R_below (by (with_reducible repeat (first | apply Kd.R_alloc | apply Kd.R_drewN | apply Kd.R_drew)); exact HO_159003.out) hb); have n2_ := Aside0.mk (Kd.V_below (by (with_reducible repeat (first | apply Kd.V_alloc | apply Kd.V_drewN | apply Kd.V_drew)); exact HO_167003.out) hb); have n3_ := Aside0.mk (Kd.R_below (by (with_reducible repeat (first | apply Kd.R_alloc | apply Kd.R_drewN | apply Kd.R_drew)); exact HO_175003.out) hb); have n4_ := Aside0.mk (Kd.V_below (by (with_reducible repeat (first | apply Kd.V_alloc | apply Kd.V_drewN | apply Kd.V_drew)); exact HO_183003.out) hb); have n5_ := Aside0.mk (Kd.R_below (by (with_reducible repeat (first | apply Kd.R_alloc | apply Kd.R_drewN | apply Kd.R_drew)); exact HO199.out) hb); have n6_ := Aside0.mk (blk_below (g := gb158) (o := .cells #[.int .i64 t151, .int .i64 t152, .int .i64 t153, .slice Ao36 t154.length co36] 67 (0, 0)) (by (with_reducible repeat (first | refine blk_drewN ?_ _ | refine blk_drew ?_ | refine blk_alloc ?_ _)); exact BK158.out) hb); have n7_ := Aside0.mk (blk_below (g := gb166) (o := .cells #[.int .i64 t159, .int .i64 t160, .int .i64 t161, .slice Ao42 t162.length co42] 66 (0, 0)) (by (with_reducible repeat (first | refine blk_drewN ?_ _ | refine blk_drew ?_ | refine blk_alloc ?_ _)); exact BK166.out) hb); have n8_ := Aside0.mk (blk_below (g := gb174) (o := .cells #[.int .i64 t167, .int .i64 t168, .int .i64 t169, .slice Ao48 t170.length co48] 67 (0, 0)) (by (with_reducible repeat (first | refine blk_drewN ?_ _ | refine blk_drew ?_ | refine blk_alloc ?_ _)); exact BK174.out) hb); have n9_ := Aside0.mk (blk_below (g := gb182) (o := .cells #[.int .i64 t175, .int .i64 t176, .int .i64 t177, .slice Ao56 t178.length co56] 66 (0, 0)) (by (with_reducible repeat (first | refine blk_drewN ?_ _ | refine blk_drew ?_ | refine blk_alloc ?_ _)); exact BK182.out) hb); have n10_ := Aside0.mk (below_step (by repeat (first | (with_reducible first | exact HB.out | apply below_alloc | apply pw_below_drewN | apply below_drew1 | refine below_set ?_ GE158.out | refine below_set ?_ GE166.out | refine below_set ?_ GE174.out | refine below_set ?_ GE182.out) | exact HB.out)) hb); clear HO_0; clear HO_159003; clear HO_167003; clear HO_175003; clear HO_183003; clear HO199; clear BK158; clear BK166; clear BK174; clear BK182; clear HB; have HO_0 := n0_; have HO_159003 := n1_; have HO_167003 := n2_; have HO_175003 := n3_; have HO_183003 := n4_; have HO199 := n5_; have BK158 := n6_; have BK166 := n7_; have BK174 := n8_; have BK182 := n9_; have HB := n10_; clear n0_ n1_ n2_ n3_ n4_ n5_ n6_ n7_ n8_ n9_ n10_; (try clear hb); (try clear hb2); (try clear hk); (try clear hi); obtain ⟨Ao85, co85, eo85⟩ := Kd.R_slice HO199.out; subst eo85) | (go_at_call 15; (with_reducible refine (incipitref01_Same.calls kj29 _ _ t197 _ _ x0_8 t202 _ ?side1 ?side2 ?side3 ?side4 A78.out).mono ?_); (case side1 => repeat (first | exact (Kd.R_reads' HO199.out).2.2 | (with_reducible refine Kd.C_alloc ?_ _) | (with_reducible refine Kd.C_drewN ?_ _) | (with_reducible refine Kd.C_drew ?_))); (case side2 => exact (Kd.R_reads' HO199.out).2.1); (case side3 => repeat (first | exact (Kd.R_reads' HO_0.out).2.2 | (with_reducible refine Kd.C_alloc ?_ _) | (with_reducible refine Kd.C_drewN ?_ _) | (with_reducible refine Kd.C_drew ?_))); (case side4 => exact (Kd.R_reads' HO_0.out).2.1); rintro e w' ⟨rfl, ⟨nd, rfl⟩⟩))
              go_ret
              exact ⟨by first | rfl | (rw [hSL12.out]; first | rfl | simp) | (rw [hSL31.out]; first | rfl | simp) | (simp [errW_none, errW_some] <;> rfl) | (simp only [← hji5, ← hji23]; first | rfl | (simp [errW_none, errW_some] <;> rfl)) | (simp [*, errW_none, errW_some] <;> rfl), by repeat (first | (with_reducible first | exact HB.out | apply below_alloc | apply pw_below_drewN | apply below_drew1 | refine below_set ?_ GE158.out | refine below_set ?_ GE166.out | refine below_set ?_ GE174.out | refine below_set ?_ GE182.out) | exact HB.out)⟩
             ·rw [if_neg c77] at H
              have c77b0 : (t200 == 0) = false := beq_eq_false_iff_ne.mpr c77
              have c77b1 : (t200 != 0) = true := bne_iff_ne.mpr c77
              exact absurd (HR_.out ▸ H) (by simp)
            ·replace c76 := Bool.eq_false_iff.mpr c76
             subst c76
             have H1 : (some false) = some r := by rw [if_neg (show ¬ (false = true) by decide)] at H; exact H
             clear H
             have H := H1
             clear H1
             exact absurd (HR_.out ▸ H) (by simp)
           ·rw [if_neg c73] at H
            have c73b0 : (t165 == 0) = false := beq_eq_false_iff_ne.mpr c73
            have c73b1 : (t165 != 0) = true := bne_iff_ne.mpr c73
            replace H := Option.bind_eq_some_iff.mp H
            obtain ⟨t203, A860, H⟩ := H
            replace H : (some t203) = some r := H
            have A86 := Aside0.mk A860
            clear A860
            obtain rfl := Option.some.inj H
            go_wp2_with (first | ((with_reducible refine gate_callee (f := 42) rfl ?_); refine goesL_ (some 84) rfl rfl Try.func42 (by kernel_rfl) rfl #[] rfl (by (try simp only [List.map_toArray, List.map_cons, List.map_nil]); first | done | rfl | (simp only [List.length_drop, List.length_take]; rfl)) ?_; (with_reducible refine (incipitlaw04_known.calls  t203 _ A86.out).mono ?_); rintro e w87 ⟨rfl, hb⟩; refine ⟨_, rfl, ?_⟩; have n0_ := Aside0.mk (Kd.R_below (by (with_reducible repeat (first | apply Kd.R_alloc | apply Kd.R_drewN | apply Kd.R_drew)); exact HO_0.out) hb); have n1_ := Aside0.mk (Kd.R_below (by (with_reducible repeat (first | apply Kd.R_alloc | apply Kd.R_drewN | apply Kd.R_drew)); exact HO_159003.out) hb); have n2_ := Aside0.mk (Kd.V_below (by (with_reducible repeat (first | apply Kd.V_alloc | apply Kd.V_drewN | apply Kd.V_drew)); exact HO_167003.out) hb); have n3_ := Aside0.mk (Kd.R_below (by (with_reducible repeat (first | apply Kd.R_alloc | apply Kd.R_drewN | apply Kd.R_drew)); exact HO_175003.out) hb); have n4_ := Aside0.mk (Kd.V_below (by (with_reducible repeat (first | apply Kd.V_alloc | apply Kd.V_drewN | apply Kd.V_drew)); exact HO_183003.out) hb); have n5_ := Aside0.mk (blk_below (g := gb158) (o := .cells #[.int .i64 t151, .int .i64 t152, .int .i64 t153, .slice Ao36 t154.length co36] 67 (0, 0)) (by (with_reducible repeat (first | refine blk_drewN ?_ _ | refine blk_drew ?_ | refine blk_alloc ?_ _)); exact BK158.out) hb); have n6_ := Aside0.mk (blk_below (g := gb166) (o := .cells #[.int .i64 t159, .int .i64 t160, .int .i64 t161, .slice Ao42 t162.length co42] 66 (0, 0)) (by (with_reducible repeat (first | refine blk_drewN ?_ _ | refine blk_drew ?_ | refine blk_alloc ?_ _)); exact BK166.out) hb); have n7_ := Aside0.mk (blk_below (g := gb174) (o := .cells #[.int .i64 t167, .int .i64 t168, .int .i64 t169, .slice Ao48 t170.length co48] 67 (0, 0)) (by (with_reducible repeat (first | refine blk_drewN ?_ _ | refine blk_drew ?_ | refine blk_alloc ?_ _)); exact BK174.out) hb); have n8_ := Aside0.mk (blk_below (g := gb182) (o := .cells #[.int .i64 t175, .int .i64 t176, .int .i64 t177, .slice Ao56 t178.length co56] 66 (0, 0)) (by (with_reducible repeat (first | refine blk_drewN ?_ _ | refine blk_drew ?_ | refine blk_alloc ?_ _)); exact BK182.out) hb); have n9_ := Aside0.mk (below_step (by repeat (first | (with_reducible first | exact HB.out | apply below_alloc | apply pw_below_drewN | apply below_drew1 | refine below_set ?_ GE158.out | refine below_set ?_ GE166.out | refine below_set ?_ GE174.out | refine below_set ?_ GE182.out) | exact HB.out)) hb); clear HO_0; clear HO_159003; clear HO_167003; clear HO_175003; clear HO_183003; clear BK158; clear BK166; clear BK174; clear BK182; clear HB; have HO_0 := n0_; have HO_159003 := n1_; have HO_167003 := n2_; have HO_175003 := n3_; have HO_183003 := n4_; have BK158 := n5_; have BK166 := n6_; have BK174 := n7_; have BK182 := n8_; have HB := n9_; clear n0_ n1_ n2_ n3_ n4_ n5_ n6_ n7_ n8_ n9_; (try clear hb); (try clear hb2); (try clear hk); (try clear hi)))
            go_ret
            exact ⟨by first | rfl | (rw [hSL12.out]; first | rfl | simp) | (rw [hSL31.out]; first | rfl | simp) | (simp [errW_none, errW_some] <;> rfl) | (simp only [← hji5, ← hji23]; first | rfl | (simp [errW_none, errW_some] <;> rfl)) | (simp [*, errW_none, errW_some] <;> rfl), by repeat (first | (with_reducible first | exact HB.out | apply below_alloc | apply pw_below_drewN | apply below_drew1 | refine below_set ?_ GE158.out | refine below_set ?_ GE166.out | refine below_set ?_ GE174.out | refine below_set ?_ GE182.out) | exact HB.out)⟩
       ·rw [if_neg c25] at H
        exact absurd H (by simp)
      ·rw [if_neg c24] at H
       exact absurd H (by simp)
   ·rw [if_neg c8] at H
    exact absurd H (by simp)
  ·rw [if_neg c7] at H
   exact absurd H (by simp)
 ·rw [if_neg c6] at H
  exact absurd H (by simp)

/-- THE ONE PURE STATEMENT of incipitlaw04_FrameReads: yours. -/
def incipitlaw04_FrameReads.Pure : Prop := ∀ (l0 : List Int) (a1 : Bool) (a2 : Int) (l3 : List Int), l0.length ≤ maxLen → l0.length * 1 ≤ 140737488351232 → (∀ x ∈ l0, (Lit.int .u8 x).wf = true) → (Lit.int .i64 a2).wf = true → l3.length ≤ maxLen → l3.length * 8 ≤ 140737488351232 → (∀ x ∈ l3, (Lit.int .i64 x).wf = true) → ∃ k, incipitlaw04_FrameReads.f k l0 a1 a2 l3 = some true
theorem incipitlaw04_FrameReads.walk (P : incipitlaw04_FrameReads.Pure) (a0 : Option Addr) (len0 cap0 : Nat) (z0 : List Int) (a1 : Bool) (a2 : Int) (a3 : Option Addr) (len3 cap3 : Nat) (z3 : List Int) (w : World) (w0 : (a0 = none ∧ len0 = 0 ∧ cap0 = 0 ∧ z0 = []) ∨ ∃ x, a0 = some x ∧ len0 ≤ cap0 ∧ cap0 ≤ maxLen ∧ z0.length = cap0 ∧ (∀ i, i < z0.length → w.cell? (x.add i) = some (.int .u8 (z0.getD i 0))) ∧ ∀ n ∈ z0, (Lit.int .u8 n).wf = true) (y0 : len0 * 1 ≤ 140737488351232) (w2 : (Lit.int .i64 a2).wf = true) (w3 : (a3 = none ∧ len3 = 0 ∧ cap3 = 0 ∧ z3 = []) ∨ ∃ x, a3 = some x ∧ len3 ≤ cap3 ∧ cap3 ≤ maxLen ∧ z3.length = cap3 ∧ (∀ i, i < z3.length → w.cell? (x.add i) = some (.int .i64 (z3.getD i 0))) ∧ ∀ n ∈ z3, (Lit.int .i64 n).wf = true) (y3 : len3 * 8 ≤ 140737488351232) :
  Calls Try.prog 9 #[.slice a0 len0 cap0, .bool a1, .int .i64 a2, .slice a3 len3 cap3] w fun e w' => e = .returned (.bool true) ∧ Below w.heap.size w w' := by
 obtain ⟨l0, rfl, hr0, hm0, hw0, hc0⟩ := ReadsInt.ofRowC w0
 obtain ⟨l3, rfl, hr3, hm3, hw3, hc3⟩ := ReadsInt.ofRowC w3
 obtain ⟨k, h⟩ := P l0 a1 a2 l3 hm0 y0 hw0 w2 hm3 y3 hw3
 refine (incipitlaw04_FrameReads.calls k _ _ l0 a1 a2 _ _ l3 true w (Kd.C_of_reads (d := (0 : Int)) (h1 := fun _ => rfl) hr0) hc0 (Kd.C_of_reads (d := (0 : Int)) (h1 := fun _ => rfl) hr3) hc3 h rfl).mono ?_
 rintro e w' ⟨rfl, hd⟩
 exact ⟨rfl, hd⟩

end Go.Proofs.Ytehdigkjbobndaa.PFrmR
