/- The walk of the document's Decode. -/
import Derived.Test.YtehdigkjbobndaaFrmD
namespace Go.Proofs.Ytehdigkjbobndaa
open Go.RowKit Go.Proofs.YtehdigkjbobndaaW.PrintWords
set_option maxRecDepth 100000

structure RDPost (A : Option Addr) (c : Nat) (l : List Int) (w : World) (r : Int × Int × Int × List Int × Int) (en : Ending) (w' : World) : Prop where mk ::
  out : ∃ v, en = .returned (.tuple #[.agg #[.int .i64 r.1, .int .i64 r.2.1, .int .i64 r.2.2.1, v], .int .i64 r.2.2.2.2]) ∧ Up w w' ∧
    ((v = .slice none 0 0 ∧ r.2.2.2.1 = []) ∨ ∃ ad m, A = some ad ∧ v = .slice (some (ad.add 10)) m (c - 10) ∧ m ≤ 238 ∧ l.length = 256 ∧ r.2.2.2.1 = (l.drop 10).take m)
theorem rdRet_bad {A : Option Addr} {c : Nat} {l : List Int} {fn : Func} {a : Act} {w w' : World} {p u : Tmp} {g : Nat} {f : Int} (hr : fn.results = #[.cell p 66, .tmp u]) (hp : a.tmps.getD p undef = .pointer (some ⟨g, 0, none⟩)) (hu : a.tmps.getD u undef = .int .i64 f)
    (hB : Blk w' g 66 #[.int .i64 0, .int .i64 0, .int .i64 0, .slice none 0 0]) (hU : Up w w') (hd : a.defers = [] := by rfl) : bodyPost Try.prog fn (RDPost A c l w (0, 0, 0, [], f)) .ret a w' := by
  refine bodyPost_ret (results_ct (P := Try.prog) hr _ _ g 66 #[.int .i64 0, .int .i64 0, .int .i64 0, .slice none 0 0] (0, 0) _ hp hB.out Try.underlying66 rfl (by kernel_rfl)) hd ?_
  rw [hu]
  exact ⟨_, rfl, hU, .inl ⟨rfl, rfl⟩⟩
theorem rdRet_ok {A : Option Addr} {c : Nat} {l : List Int} {fn : Func} {a : Act} {w w' : World} {p u : Tmp} {g m : Nat} {K E P : Int} {ad : Addr} {v : Value} (hr : fn.results = #[.cell p 66, .tmp u]) (hp : a.tmps.getD p undef = .pointer (some ⟨g, 0, none⟩)) (hu : a.tmps.getD u undef = .int .i64 0)
    (hB : Blk w' g 66 #[.int .i64 K, .int .i64 E, .int .i64 P, v]) (hU : Up w w') (hA : A = some ad) (hv : v = .slice (some ⟨ad.block, ad.off + 10, none⟩) m (c - 10)) (hm : m ≤ 238) (hl : l.length = 256) (hd : a.defers = [] := by rfl) : bodyPost Try.prog fn (RDPost A c l w (K, E, P, (l.drop 10).take m, 0)) .ret a w' := by
  refine bodyPost_ret (results_ct (P := Try.prog) hr _ _ g 66 #[.int .i64 K, .int .i64 E, .int .i64 P, v] (0, 0) _ hp hB.out Try.underlying66 rfl (by kernel_rfl)) hd ?_
  rw [hu]
  exact ⟨_, rfl, hU, .inr ⟨ad, m, hA, hv, hm, hl, rfl⟩⟩


theorem num4_at (l : List Int) : num4 (l.drop 2) = l.getD 2 0 + 256 * l.getD 3 0 + 65536 * l.getD 4 0 + 16777216 * l.getD 5 0 := by
  simp [num4, List.getD_eq_getElem?_getD]
theorem num2_at (l : List Int) (i : Nat) : num2 (l.drop i) = l.getD i 0 + 256 * l.getD (i + 1) 0 := by
  simp [num2, List.getD_eq_getElem?_getD]
theorem refDec_bad {l : List Int} (hl : l.length = 256) (hs : decide (l.drop 252 = low4 (CrcPlain.crc (l.take 252))) = true) (hc : l.getD 0 0 ≠ 241 ∨ 238 < num2 (l.drop 8) ∨ l.getD 1 0 < 1 ∨ 9 < l.getD 1 0 ∨ 2047 < num2 (l.drop 6)) : refDec l = (0, 0, 0, [], 3) := by
  unfold refDec
  rw [if_neg (show ¬ l.length ≠ 256 by omega), if_neg (show ¬ l.drop 252 ≠ low4 (CrcPlain.crc (l.take 252)) from fun h => h (of_decide_eq_true hs)), if_pos hc]
theorem zeros_not {l : List Int} (_ : l.length = 256) {m k : Nat} (hm : m ≤ 238) (h1 : 10 + m ≤ k) (h2 : k < 248) (h : l.getD k 0 ≠ 0) : (l.drop (10 + m)).take (238 - m) ≠ List.replicate (238 - m) 0 := fun e => h (by
  have e2 := congrArg (fun z => z.getD (k - (10 + m)) 0) e
  simp only [List.getD_eq_getElem?_getD, List.getElem?_take, List.getElem?_drop] at e2 ⊢
  rw [if_pos (by omega), show 10 + m + (k - (10 + m)) = k by omega] at e2
  rw [e2]
  simp [List.getElem?_replicate]
  split <;> rfl)
theorem zeros_all {l : List Int} (hl : l.length = 256) {m : Nat} (hm : m ≤ 238) (h : ∀ j, 10 + m ≤ j → j < 248 → l.getD j 0 = 0) : (l.drop (10 + m)).take (238 - m) = List.replicate (238 - m) 0 :=
  (rep_iff _ _ (by rw [List.length_take, List.length_drop]; omega)).2 fun i hi => by
    have := h (10 + m + i) (by omega) (by omega)
    simp only [List.getD_eq_getElem?_getD, List.getElem?_take, List.getElem?_drop] at this ⊢
    rw [if_pos hi]
    exact this
theorem refDec_tail {l : List Int} (hl : l.length = 256) (hs : decide (l.drop 252 = low4 (CrcPlain.crc (l.take 252))) = true) {m : Nat} (hc : l.getD 0 0 = 241 ∧ ¬ l.getD 1 0 < 1 ∧ ¬ 9 < l.getD 1 0 ∧ ¬ 2047 < num2 (l.drop 6)) (hn : num2 (l.drop 8) = m) (hm : m ≤ 238)
    (hb : (l.drop (10 + m)).take (238 - m) ≠ List.replicate (238 - m) 0 ∨ (l.drop 248).take 4 ≠ (l.drop 2).take 4) : refDec l = (0, 0, 0, [], 3) := by
  unfold refDec
  rw [if_neg (show ¬ l.length ≠ 256 by omega), if_neg (show ¬ l.drop 252 ≠ low4 (CrcPlain.crc (l.take 252)) from fun h => h (of_decide_eq_true hs)), hn, if_neg (show ¬ (l.getD 0 0 ≠ 241 ∨ 238 < (m : Int) ∨ l.getD 1 0 < 1 ∨ 9 < l.getD 1 0 ∨ 2047 < num2 (l.drop 6)) by omega), Int.toNat_natCast, if_pos hb]
theorem refDec_good {l : List Int} (hl : l.length = 256) (hs : decide (l.drop 252 = low4 (CrcPlain.crc (l.take 252))) = true) {m : Nat} (hc : l.getD 0 0 = 241 ∧ ¬ l.getD 1 0 < 1 ∧ ¬ 9 < l.getD 1 0 ∧ ¬ 2047 < num2 (l.drop 6)) (hn : num2 (l.drop 8) = m) (hm : m ≤ 238)
    (h1 : (l.drop (10 + m)).take (238 - m) = List.replicate (238 - m) 0) (h2 : (l.drop 248).take 4 = (l.drop 2).take 4) : refDec l = (l.getD 1 0, num4 (l.drop 2), num2 (l.drop 6), (l.drop 10).take m, 0) := by
  unfold refDec
  rw [if_neg (show ¬ l.length ≠ 256 by omega), if_neg (show ¬ l.drop 252 ≠ low4 (CrcPlain.crc (l.take 252)) from fun h => h (of_decide_eq_true hs)), hn, if_neg (show ¬ (l.getD 0 0 ≠ 241 ∨ 238 < (m : Int) ∨ l.getD 1 0 < 1 ∨ 9 < l.getD 1 0 ∨ 2047 < num2 (l.drop 6)) by omega), Int.toNat_natCast, if_neg (fun h => h.elim (fun h => h h1) (fun h => h h2))]
set_option maxHeartbeats 4000000 in
theorem ref4_len (A : Option Addr) (c : Nat) (l : List Int) (w : World) (h1 : Rd w .u8 A c l) (hl : l.length ≠ 256) :
    Calls Try.prog 46 #[.slice A l.length c] w (RDPost A c l w (0, 0, 0, [], 2)) := by
  have hlen := h1.len
  have hd : ((l.length : Int) != 256) = true := by simpa using (show (l.length : Int) ≠ 256 by omega)
  go_enter Try.func46, Try.ntmps46
  go_wp2_with fail
  exact rdRet_bad (p := 2) (u := 3) (by kernel_rfl) rfl rfl (Blk.new w _ _) ((Up.refl w).alloc _)

set_option maxHeartbeats 4000000 in
theorem ref4_sum (A : Option Addr) (c : Nat) (l : List Int) (w : World) (h1 : Rd w .u8 A c l) (HL : Hid (l.length = 256)) (HSUM : Hid (decide (l.drop 252 = low4 (CrcPlain.crc (l.take 252))) = false)) :
    Calls Try.prog 46 #[.slice A 256 c] w (RDPost A c l w (0, 0, 0, [], 5)) := by
  have hu0 : Up w (w.alloc (.cells #[.int .i64 0, .int .i64 0, .int .i64 0, .slice none 0 0] 66)) := (Up.refl w).alloc _
  have hz := Blk.new w 66 #[.int .i64 0, .int .i64 0, .int .i64 0, .slice none 0 0]
  have hr0 := h1.up hu0
  have hcc : 256 ≤ c := by have := h1.le; have := HL.out; omega
  have hcr := CrcPlain.crc_lt (l.take 252) (fun x hx => h1.u8 x (List.mem_of_mem_take hx))
  have HCR := Lib.hid hcr
  clear hcr
  go_enter Try.func46, Try.ntmps46
  go_wp2_with fail
  generalize (w.alloc (.cells #[.int .i64 0, .int .i64 0, .int .i64 0, .slice none 0 0] 66)) = w1 at *
  have HW := (Up.refl w1).drew
  refine wp_region_tree (fun w' => Up w1 w') (.quiet 0 (.quiet 1 (.quiet 2 (.quiet 3 (.alt 4 (.alt 5 (.alt 6 (.quiet 7 (.nil)) (.stop)) (.stop)) (.stop)))))) (by kernel_rfl) (by kernel_rfl) rfl (by kernel_rfl) (by kernel_rfl) (HW) ?_
  simp only [pickT, List.getElem?_cons_succ, List.getElem?_cons_zero, Option.getD_some]
  iterate 1 (refine tree_step rfl (fun K hK => ?_); go_big_quiet_step ((intro _; rfl)); refine wpQuiet_nil (hK _ ?_); clear hK K)
  obtain ⟨A12, e12, hr12⟩ := hr0.sliced 252 256 c (by omega) (by have := HL.out; omega) hcc (Nat.le_refl _)
  refine tree_slice_lo 5 1 (.int .u8 0) A 256 c .i64 252 Try.underlying22 infoU8 (by kernel_rfl) rfl rfl (by omega) (by omega) ?_
  rw [show sliced A (252 : Int).toNat 256 c 1 = .slice A12 4 (c - 252) from e12]
  clear e12
  dsimp only [Act.put]
  simp only [List.setIfInBounds_toArray, List.set_cons_zero, List.set_cons_succ]
  iterate 1 (refine tree_step rfl (fun K hK => ?_); go_big_quiet_step ((intro _; rfl)); refine wpQuiet_nil (hK _ ?_); clear hK K)
  obtain ⟨A14, e14, hr14⟩ := hr0.sliced 0 252 c (by omega) (by have := HL.out; omega) (by omega) (Nat.le_refl _)
  refine tree_slice_hi 5 1 (.int .u8 0) A 256 c .i64 252 Try.underlying22 infoU8 (by kernel_rfl) rfl rfl (by omega) (by omega) ?_
  rw [show sliced A 0 (252 : Int).toNat c 1 = .slice A14 252 (c - 0) from e14]
  rw [List.drop_zero] at hr14
  rw [show (l.take 256).drop 252 = l.drop 252 by rw [List.take_of_length_le (by rw [HL.out]; omega)]] at hr12
  clear e14
  dsimp only [Act.put]
  simp only [List.setIfInBounds_toArray, List.set_cons_zero, List.set_cons_succ]
  generalize w1.drew = wc at *
  refine tree_do (fun K hK => ?_)
  go_wp2_with fail
  refine (refSum_n (hr14.up HW) (by rw [List.length_take, HL.out]; rfl)).mono ?_
  rintro en wd ⟨rfl, rfl⟩
  go_wp2_with fail
  refine ⟨HW, ?_⟩
  refine tree_do (fun K hK => ?_)
  go_wp2_with fail
  refine (refLow_calls _ _ HCR.out).mono ?_
  rintro en wd ⟨v, rfl, hv, hS⟩
  obtain ⟨B16, c16, rfl, hr16⟩ := hv.rd
  go_wp2_with fail
  refine ⟨HW.trans hS, ?_⟩
  replace HW := HW.trans hS
  clear hS hv
  refine tree_do (fun K hK => ?_)
  go_wp2_with fail
  refine (refSame_n (hr12.up HW) hr16 (by rw [List.length_drop, HL.out]) rfl).mono ?_
  rintro en we ⟨rfl, hS⟩
  rw [HSUM.out]
  go_wp2_with fail
  refine ⟨HW.trans hS.up, ?_⟩
  replace HW := HW.trans hS.up
  clear hS
  repeat (refine tree_step rfl (fun K hK => ?_); go_big_quiet_step ((intro _; rfl)); refine wpQuiet_nil (hK _ ?_); clear hK K)
  refine tree_nil ?_
  replace hz := hz.up HW
  replace hr0 := hr0.up HW
  have HU := hu0.trans HW
  clear HW hr12 hr14 hr16 hu0
  have z0 := hz.cell 0
  have z1 := hz.cell 1
  have z2 := hz.cell 2
  have z3 := hz.cell 3
  simp only [List.getElem?_toArray, List.getElem?_cons_succ, List.getElem?_cons_zero] at z0 z1 z2 z3
  have y0 := hz.frozen 0
  have y1 := hz.frozen 1
  have y2 := hz.frozen 2
  have y3 := hz.frozen 3
  go_wp2_with fail
  exact rdRet_bad (p := 2) (u := 3) (by kernel_rfl) rfl rfl (blk_store4 hz _ _ _ _) (up_store4 HU (Nat.le_refl _) _ _ _ _)

set_option maxHeartbeats 8000000 in
theorem ref4_a (A : Option Addr) (c : Nat) (l : List Int) (w : World) (h1 : Rd w .u8 A c l) (HL : Hid (l.length = 256)) (HSUM : Hid (decide (l.drop 252 = low4 (CrcPlain.crc (l.take 252))) = true)) :
    Calls Try.prog 46 #[.slice A 256 c] w (RDPost A c l w (refDec l)) := by
  have hu0 : Up w (w.alloc (.cells #[.int .i64 0, .int .i64 0, .int .i64 0, .slice none 0 0] 66)) := (Up.refl w).alloc _
  have hz := Blk.new w 66 #[.int .i64 0, .int .i64 0, .int .i64 0, .slice none 0 0]
  have hr0 := h1.up hu0
  have hcc : 256 ≤ c := by have := h1.le; have := HL.out; omega
  have hcr := CrcPlain.crc_lt (l.take 252) (fun x hx => h1.u8 x (List.mem_of_mem_take hx))
  have HCR := Lib.hid hcr
  clear hcr
  go_enter Try.func46, Try.ntmps46
  go_wp2_with fail
  generalize (w.alloc (.cells #[.int .i64 0, .int .i64 0, .int .i64 0, .slice none 0 0] 66)) = w1 at *
  have HW := (Up.refl w1).drew
  refine wp_region_tree (fun w' => Up w1 w') (.quiet 0 (.quiet 1 (.quiet 2 (.quiet 3 (.alt 4 (.alt 5 (.alt 6 (.quiet 7 (.nil)) (.stop)) (.stop)) (.stop)))))) (by kernel_rfl) (by kernel_rfl) rfl (by kernel_rfl) (by kernel_rfl) (HW) ?_
  simp only [pickT, List.getElem?_cons_succ, List.getElem?_cons_zero, Option.getD_some]
  iterate 1 (refine tree_step rfl (fun K hK => ?_); go_big_quiet_step ((intro _; rfl)); refine wpQuiet_nil (hK _ ?_); clear hK K)
  obtain ⟨A12, e12, hr12⟩ := hr0.sliced 252 256 c (by omega) (by have := HL.out; omega) hcc (Nat.le_refl _)
  refine tree_slice_lo 5 1 (.int .u8 0) A 256 c .i64 252 Try.underlying22 infoU8 (by kernel_rfl) rfl rfl (by omega) (by omega) ?_
  rw [show sliced A (252 : Int).toNat 256 c 1 = .slice A12 4 (c - 252) from e12]
  clear e12
  dsimp only [Act.put]
  simp only [List.setIfInBounds_toArray, List.set_cons_zero, List.set_cons_succ]
  iterate 1 (refine tree_step rfl (fun K hK => ?_); go_big_quiet_step ((intro _; rfl)); refine wpQuiet_nil (hK _ ?_); clear hK K)
  obtain ⟨A14, e14, hr14⟩ := hr0.sliced 0 252 c (by omega) (by have := HL.out; omega) (by omega) (Nat.le_refl _)
  refine tree_slice_hi 5 1 (.int .u8 0) A 256 c .i64 252 Try.underlying22 infoU8 (by kernel_rfl) rfl rfl (by omega) (by omega) ?_
  rw [show sliced A 0 (252 : Int).toNat c 1 = .slice A14 252 (c - 0) from e14]
  rw [List.drop_zero] at hr14
  rw [show (l.take 256).drop 252 = l.drop 252 by rw [List.take_of_length_le (by rw [HL.out]; omega)]] at hr12
  clear e14
  dsimp only [Act.put]
  simp only [List.setIfInBounds_toArray, List.set_cons_zero, List.set_cons_succ]
  generalize w1.drew = wc at *
  refine tree_do (fun K hK => ?_)
  go_wp2_with fail
  refine (refSum_n (hr14.up HW) (by rw [List.length_take, HL.out]; rfl)).mono ?_
  rintro en wd ⟨rfl, rfl⟩
  go_wp2_with fail
  refine ⟨HW, ?_⟩
  refine tree_do (fun K hK => ?_)
  go_wp2_with fail
  refine (refLow_calls _ _ HCR.out).mono ?_
  rintro en wd ⟨v, rfl, hv, hS⟩
  obtain ⟨B16, c16, rfl, hr16⟩ := hv.rd
  go_wp2_with fail
  refine ⟨HW.trans hS, ?_⟩
  replace HW := HW.trans hS
  clear hS hv
  refine tree_do (fun K hK => ?_)
  go_wp2_with fail
  refine (refSame_n (hr12.up HW) hr16 (by rw [List.length_drop, HL.out]) rfl).mono ?_
  rintro en we ⟨rfl, hS⟩
  rw [HSUM.out]
  go_wp2_with fail
  refine ⟨HW.trans hS.up, ?_⟩
  replace HW := HW.trans hS.up
  clear hS
  repeat (refine tree_step rfl (fun K hK => ?_); go_big_quiet_step ((intro _; rfl)); refine wpQuiet_nil (hK _ ?_); clear hK K)
  refine tree_nil ?_
  replace hz := hz.up HW
  replace hr0 := hr0.up HW
  have HU := hu0.trans HW
  clear HW hr12 hr14 hr16 hu0
  obtain ⟨ad, x0, rfl, q0, X0, i0⟩ := hr0.get 0 (by have := HL.out; omega)
  obtain ⟨ad', x1, e', q1, X1, i1⟩ := hr0.get 1 (by have := HL.out; omega)
  obtain rfl := Option.some.inj e'
  obtain ⟨ad', x2, e', q2, X2, i2⟩ := hr0.get 2 (by have := HL.out; omega)
  obtain rfl := Option.some.inj e'
  obtain ⟨ad', x3, e', q3, X3, i3⟩ := hr0.get 3 (by have := HL.out; omega)
  obtain rfl := Option.some.inj e'
  obtain ⟨ad', x4, e', q4, X4, i4⟩ := hr0.get 4 (by have := HL.out; omega)
  obtain rfl := Option.some.inj e'
  obtain ⟨ad', x5, e', q5, X5, i5⟩ := hr0.get 5 (by have := HL.out; omega)
  obtain rfl := Option.some.inj e'
  obtain ⟨ad', x6, e', q6, X6, i6⟩ := hr0.get 6 (by have := HL.out; omega)
  obtain rfl := Option.some.inj e'
  obtain ⟨ad', x7, e', q7, X7, i7⟩ := hr0.get 7 (by have := HL.out; omega)
  obtain rfl := Option.some.inj e'
  obtain ⟨ad', x8, e', q8, X8, i8⟩ := hr0.get 8 (by have := HL.out; omega)
  obtain rfl := Option.some.inj e'
  obtain ⟨ad', x9, e', q9, X9, i9⟩ := hr0.get 9 (by have := HL.out; omega)
  obtain rfl := Option.some.inj e'
  replace X0 := Lib.hid X0.out
  obtain ⟨j0, k0⟩ := i0.u8
  obtain ⟨j1, k1⟩ := i1.u8
  obtain ⟨j2, k2⟩ := i2.u8
  obtain ⟨j3, k3⟩ := i3.u8
  obtain ⟨j4, k4⟩ := i4.u8
  obtain ⟨j5, k5⟩ := i5.u8
  obtain ⟨j6, k6⟩ := i6.u8
  obtain ⟨j7, k7⟩ := i7.u8
  obtain ⟨j8, k8⟩ := i8.u8
  obtain ⟨j9, k9⟩ := i9.u8
  have hw1 : wrap64 x1 = x1 := by unfold wrap64; omega
  have hw2 : wrap64 x2 = x2 := by unfold wrap64; omega
  have hw3 : wrap64 x3 = x3 := by unfold wrap64; omega
  have hw4 : wrap64 x4 = x4 := by unfold wrap64; omega
  have hw5 : wrap64 x5 = x5 := by unfold wrap64; omega
  have hw6 : wrap64 x6 = x6 := by unfold wrap64; omega
  have hw7 : wrap64 x7 = x7 := by unfold wrap64; omega
  have hw8 : wrap64 x8 = x8 := by unfold wrap64; omega
  have hw9 : wrap64 x9 = x9 := by unfold wrap64; omega
  have hm9 : wrap64 (256 * x9) = 256 * x9 := by unfold wrap64; omega
  have hs9 : wrap64 (x8 + 256 * x9) = x8 + 256 * x9 := by unfold wrap64; omega
  have hm3 : wrap64 (256 * x3) = 256 * x3 := by unfold wrap64; omega
  have hs3 : wrap64 (x2 + 256 * x3) = x2 + 256 * x3 := by unfold wrap64; omega
  have hm4 : wrap64 (65536 * x4) = 65536 * x4 := by unfold wrap64; omega
  have hs4 : wrap64 (x2 + 256 * x3 + 65536 * x4) = x2 + 256 * x3 + 65536 * x4 := by unfold wrap64; omega
  have hm5 : wrap64 (16777216 * x5) = 16777216 * x5 := by unfold wrap64; omega
  have hs5 : wrap64 (x2 + 256 * x3 + 65536 * x4 + 16777216 * x5) = x2 + 256 * x3 + 65536 * x4 + 16777216 * x5 := by unfold wrap64; omega
  have hm7 : wrap64 (256 * x7) = 256 * x7 := by unfold wrap64; omega
  have hs7 : wrap64 (x6 + 256 * x7) = x6 + 256 * x7 := by unfold wrap64; omega
  have HWW := Lib.hid hw1
  go_wp2_with fail
  have HW := (Up.refl we).drew
  refine wp_region_tree (fun w' => Up we w') (.quiet 0 (.quiet 1 (.quiet 2 (.quiet 3 (.quiet 4 (.quiet 5 (.quiet 6 (.quiet 7 (.quiet 8 (.quiet 9 (.quiet 10 (.nil)))))))))))) (by kernel_rfl) (by kernel_rfl) rfl (by kernel_rfl) (by kernel_rfl) (HW) ?_
  simp only [pickT, List.getElem?_cons_succ, List.getElem?_cons_zero, Option.getD_some]
  repeat (refine tree_step rfl (fun K hK => ?_); go_big_quiet_step ((intro _; rfl)); refine wpQuiet_nil (hK _ ?_); clear hK K)
  refine tree_load (ad.add 8) (.int .u8 x8) (by kernel_rfl) rfl (by kernel_rfl) (fun w' h => h.cell q8) ?_
  dsimp only [Act.put]
  simp only [List.setIfInBounds_toArray, List.set_cons_zero, List.set_cons_succ]
  repeat (refine tree_step rfl (fun K hK => ?_); go_big_quiet_step ((intro _; rfl)); refine wpQuiet_nil (hK _ ?_); clear hK K)
  refine tree_load (ad.add 9) (.int .u8 x9) (by kernel_rfl) rfl (by kernel_rfl) (fun w' h => h.cell q9) ?_
  dsimp only [Act.put]
  simp only [List.setIfInBounds_toArray, List.set_cons_zero, List.set_cons_succ]
  repeat (refine tree_step rfl (fun K hK => ?_); go_big_quiet_step ((intro _; rfl)); refine wpQuiet_nil (hK _ ?_); clear hK K)
  refine tree_nil ?_
  have hn0 : 0 ≤ x8 + 256 * x9 := by omega
  have hn1 : x8 + 256 * x9 ≤ 65535 := by omega
  replace hz := hz.up HW
  replace HU := HU.trans HW
  replace hr0 := hr0.up HW
  replace q0 := HW.cell q0
  replace q1 := HW.cell q1
  replace q2 := HW.cell q2
  replace q3 := HW.cell q3
  replace q4 := HW.cell q4
  replace q5 := HW.cell q5
  replace q6 := HW.cell q6
  replace q7 := HW.cell q7
  replace q8 := HW.cell q8
  replace q9 := HW.cell q9
  clear HW hm9 hs9 hw8 hw9
  generalize we.drew = wf at *
  go_wp2_with fail
  have HW := (Up.refl wf).drew
  refine wp_region_tree (fun w' => Up wf w') (.quiet 0 (.quiet 1 (.quiet 2 (.quiet 3 (.quiet 4 (.quiet 5 (.quiet 6 (.quiet 7 (.quiet 8 (.quiet 9 (.quiet 10 (.quiet 11 (.quiet 12 (.quiet 13 (.quiet 14 (.quiet 15 (.quiet 16 (.quiet 17 (.quiet 18 (.quiet 19 (.quiet 20 (.quiet 21 (.quiet 22 (.quiet 23 (.quiet 24 (.quiet 25 (.quiet 26 (.quiet 27 (.quiet 28 (.quiet 29 (.quiet 30 (.quiet 31 (.quiet 32 (.quiet 33 (.quiet 34 (.quiet 35 (.quiet 36 (.alt 37 (.alt 38 (.nil) (.stop)) (.stop))))))))))))))))))))))))))))))))))))))) (by kernel_rfl) (by kernel_rfl) rfl (by kernel_rfl) (by kernel_rfl) (HW) ?_
  simp only [pickT, List.getElem?_cons_succ, List.getElem?_cons_zero, Option.getD_some]
  repeat (refine tree_step rfl (fun K hK => ?_); go_big_quiet_step ((intro _; rfl)); refine wpQuiet_nil (hK _ ?_); clear hK K)
  refine tree_load (ad.add 1) (.int .u8 x1) (by kernel_rfl) rfl (by kernel_rfl) (fun w' h => h.cell q1) ?_
  dsimp only [Act.put]
  simp only [List.setIfInBounds_toArray, List.set_cons_zero, List.set_cons_succ]
  repeat (refine tree_step rfl (fun K hK => ?_); go_big_quiet_step ((intro _; rfl)); refine wpQuiet_nil (hK _ ?_); clear hK K)
  refine tree_load (ad.add 2) (.int .u8 x2) (by kernel_rfl) rfl (by kernel_rfl) (fun w' h => h.cell q2) ?_
  dsimp only [Act.put]
  simp only [List.setIfInBounds_toArray, List.set_cons_zero, List.set_cons_succ]
  repeat (refine tree_step rfl (fun K hK => ?_); go_big_quiet_step ((intro _; rfl)); refine wpQuiet_nil (hK _ ?_); clear hK K)
  refine tree_load (ad.add 3) (.int .u8 x3) (by kernel_rfl) rfl (by kernel_rfl) (fun w' h => h.cell q3) ?_
  dsimp only [Act.put]
  simp only [List.setIfInBounds_toArray, List.set_cons_zero, List.set_cons_succ]
  repeat (refine tree_step rfl (fun K hK => ?_); go_big_quiet_step ((intro _; rfl)); refine wpQuiet_nil (hK _ ?_); clear hK K)
  refine tree_load (ad.add 4) (.int .u8 x4) (by kernel_rfl) rfl (by kernel_rfl) (fun w' h => h.cell q4) ?_
  dsimp only [Act.put]
  simp only [List.setIfInBounds_toArray, List.set_cons_zero, List.set_cons_succ]
  repeat (refine tree_step rfl (fun K hK => ?_); go_big_quiet_step ((intro _; rfl)); refine wpQuiet_nil (hK _ ?_); clear hK K)
  refine tree_load (ad.add 5) (.int .u8 x5) (by kernel_rfl) rfl (by kernel_rfl) (fun w' h => h.cell q5) ?_
  dsimp only [Act.put]
  simp only [List.setIfInBounds_toArray, List.set_cons_zero, List.set_cons_succ]
  repeat (refine tree_step rfl (fun K hK => ?_); go_big_quiet_step ((intro _; rfl)); refine wpQuiet_nil (hK _ ?_); clear hK K)
  refine tree_load (ad.add 6) (.int .u8 x6) (by kernel_rfl) rfl (by kernel_rfl) (fun w' h => h.cell q6) ?_
  dsimp only [Act.put]
  simp only [List.setIfInBounds_toArray, List.set_cons_zero, List.set_cons_succ]
  repeat (refine tree_step rfl (fun K hK => ?_); go_big_quiet_step ((intro _; rfl)); refine wpQuiet_nil (hK _ ?_); clear hK K)
  refine tree_load (ad.add 7) (.int .u8 x7) (by kernel_rfl) rfl (by kernel_rfl) (fun w' h => h.cell q7) ?_
  dsimp only [Act.put]
  simp only [List.setIfInBounds_toArray, List.set_cons_zero, List.set_cons_succ]
  repeat (refine tree_step rfl (fun K hK => ?_); go_big_quiet_step ((intro _; rfl)); refine wpQuiet_nil (hK _ ?_); clear hK K)
  generalize wf.drew = wc at *
  have HE2 := Lib.hid (num4_at l)
  rw [X2.out, X3.out, X4.out, X5.out] at HE2
  have HP2 := Lib.hid (num2_at l 6)
  rw [X6.out, X7.out] at HP2
  have HN2 := Lib.hid (num2_at l 8)
  rw [X8.out, X9.out] at HN2
  have hE0 : 0 ≤ x2 + 256 * x3 + 65536 * x4 + 16777216 * x5 := by omega
  have hE1 : x2 + 256 * x3 + 65536 * x4 + 16777216 * x5 ≤ 4294967295 := by omega
  have hP0 : 0 ≤ x6 + 256 * x7 := by omega
  have hP1 : x6 + 256 * x7 ≤ 65535 := by omega
  clear hm3 hs3 hm4 hs4 hm5 hs5 hm7 hs7 hw2 hw3 hw4 hw5 hw6 hw7
  generalize x2 + 256 * x3 + 65536 * x4 + 16777216 * x5 = E at *
  generalize x6 + 256 * x7 = P at *
  generalize x8 + 256 * x9 = N at *
  clear q2 q3 q4 q5 q6 q7 q8 q9 j2 j3 j4 j5 j6 j7 j8 j9 k2 k3 k4 k5 k6 k7 k8 k9
  have hadlt : ad.block < wf.heap.size := hr0.lt ad rfl (by have := HL.out; omega)
  refine tree_do (fun K hK => ?_)
  go_wp2_with fail
  have hS := (Up.refl wc).alloc (.cells #[.int .i64 0, .int .i64 0, .int .i64 0, .slice none 0 0] 66)
  have hb5 := Blk.new wc 66 #[.int .i64 0, .int .i64 0, .int .i64 0, .slice none 0 0]
  have hG5 : wf.heap.size ≤ wc.heap.size := HW.size
  refine ⟨HW.trans hS, ?_⟩
  replace HW := HW.trans hS
  clear hS
  generalize (wc.alloc (.cells #[.int .i64 0, .int .i64 0, .int .i64 0, .slice none 0 0] 66)) = wn at *
  generalize wc.heap.size = G5 at *
  have v0 := hb5.cell 0
  have v1 := hb5.cell 1
  have v2 := hb5.cell 2
  have v3 := hb5.cell 3
  simp only [List.getElem?_toArray, List.getElem?_cons_succ, List.getElem?_cons_zero] at v0 v1 v2 v3
  have u0 := hb5.frozen 0
  have u1 := hb5.frozen 1
  have u2 := hb5.frozen 2
  have u3 := hb5.frozen 3
  refine tree_do (fun K hK => ?_)
  go_wp2_with fail
  refine ⟨trivial, ?_⟩
  refine tree_nil ?_
  have hx := UpX.four wn G5 (.int .i64 x1) (.int .i64 E) (.int .i64 P) (.slice none 0 0)
  have hzlt := hz.lt
  have hzne : w.heap.size ≠ G5 := by omega
  replace hz := (hz.up HW).upx hx hzne
  replace hr0 := (hr0.up HW).upx hx fun ad' e0 _ e => by
    have e1 := Option.some.inj e0
    subst e1
    omega
  have HU2 : Up w _ := (HU.trans HW).thenx hx fun i hi e => by have := HU.size; omega
  replace hb5 := blk_store4 hb5 (.int .i64 x1) (.int .i64 E) (.int .i64 P) (.slice none 0 0)
  clear v0 v1 v2 v3 u0 u1 u2 u3 hx HU HW q0 q1
  generalize ((((wn.setCell ⟨G5, 0, none⟩ (.int .i64 x1)).setCell ⟨G5, 1, none⟩ (.int .i64 E)).setCell ⟨G5, 2, none⟩ (.int .i64 P)).setCell ⟨G5, 3, none⟩ (.slice none 0 0)) = wd at *
  have HU := HU2
  clear HU2
  have v0 := hb5.cell 0
  have v1 := hb5.cell 1
  have v2 := hb5.cell 2
  have v3 := hb5.cell 3
  simp only [List.getElem?_toArray, List.getElem?_cons_succ, List.getElem?_cons_zero] at v0 v1 v2 v3
  have u3 := hb5.frozen 3
  have q0 : wd.cell? ad = some (.int .u8 x0) := by
    obtain ⟨ad2, y, e, q, Y, _⟩ := hr0.get 0 (by have := HL.out; omega)
    obtain rfl := Option.some.inj e
    rw [← X0.out, Y.out]
    simpa [Addr.add] using q
  have z0 := hz.cell 0
  have z1 := hz.cell 1
  have z2 := hz.cell 2
  have z3 := hz.cell 3
  simp only [List.getElem?_toArray, List.getElem?_cons_succ, List.getElem?_cons_zero] at z0 z1 z2 z3
  have y0 := hz.frozen 0
  have y1 := hz.frozen 1
  have y2 := hz.frozen 2
  have y3 := hz.frozen 3
  by_cases cA : x0 = 241
  ·
    subst cA
    by_cases cB : 238 < N
    ·
      go_wp2_with fail
      rw [refDec_bad HL.out HSUM.out (by rw [HN2.out]; omega)]
      exact rdRet_bad (p := 2) (u := 3) (by kernel_rfl) rfl rfl (blk_store4 hz _ _ _ _) (up_store4 HU (Nat.le_refl _) _ _ _ _)
    by_cases cC : x1 < 1
    ·
      go_wp2_with fail
      rw [refDec_bad HL.out HSUM.out (by rw [X1.out]; omega)]
      exact rdRet_bad (p := 2) (u := 3) (by kernel_rfl) rfl rfl (blk_store4 hz _ _ _ _) (up_store4 HU (Nat.le_refl _) _ _ _ _)
    by_cases cD : 9 < x1
    ·
      go_wp2_with fail
      rw [refDec_bad HL.out HSUM.out (by rw [X1.out]; omega)]
      exact rdRet_bad (p := 2) (u := 3) (by kernel_rfl) rfl rfl (blk_store4 hz _ _ _ _) (up_store4 HU (Nat.le_refl _) _ _ _ _)
    by_cases cE : 2047 < P
    ·
      go_wp2_with fail
      rw [refDec_bad HL.out HSUM.out (by rw [HP2.out]; omega)]
      exact rdRet_bad (p := 2) (u := 3) (by kernel_rfl) rfl rfl (blk_store4 hz _ _ _ _) (up_store4 HU (Nat.le_refl _) _ _ _ _)
    have hnn : 0 ≤ N := hn0
    obtain ⟨m, rfl⟩ := Int.eq_ofNat_of_zero_le hnn
    have hm : m ≤ 238 := by omega
    have hci : 10 + (m : Int) ≤ (c : Int) := by omega
    go_wp2_with fail
    have hx3 := UpX.one wd G5 3 (.slice (some ⟨ad.block, ad.off + 10, none⟩) m (c - 10))
    replace hz := hz.upx hx3 hzne
    replace hr0 := hr0.upx hx3 fun ad' e0 _ e => by
      have e1 := Option.some.inj e0
      subst e1
      omega
    replace HU := HU.thenx hx3 fun i hi e => by omega
    replace hb5 := hb5.set 3 (.slice (some ⟨ad.block, ad.off + 10, none⟩) m (c - 10))
    rw [show (#[Value.int .i64 x1, .int .i64 E, .int .i64 P, .slice none 0 0] : Array Value).setIfInBounds 3 (.slice (some ⟨ad.block, ad.off + 10, none⟩) m (c - 10)) = #[Value.int .i64 x1, .int .i64 E, .int .i64 P, .slice (some ⟨ad.block, ad.off + 10, none⟩) m (c - 10)] by simp] at hb5
    clear hx3 v0 v1 v2 v3 u3 q0 z0 z1 z2 z3 y0 y1 y2 y3
    generalize (wd.setCell ⟨G5, 3, none⟩ (.slice (some ⟨ad.block, ad.off + 10, none⟩) m (c - 10))) = wl at *
    have v0 := hb5.cell 0
    have v1 := hb5.cell 1
    have v2 := hb5.cell 2
    have v3 := hb5.cell 3
    simp only [List.getElem?_toArray, List.getElem?_cons_succ, List.getElem?_cons_zero] at v0 v1 v2 v3
    go_loopw [6] (fun i wr => ∃ k : Nat, 10 + m ≤ k ∧ k ≤ 248 ∧ i = .int .i64 k ∧ Hid (∀ j, 10 + m ≤ j → j < k → l.getD j 0 = 0) ∧ wl = wr) (fun i _ => 248 - (intOf i).toNat)
    case atStart => exact ⟨10 + m, by omega, by omega, by simp, Lib.hid (fun j h1 h2 => by omega), rfl⟩
    case round =>
      obtain ⟨k, hk1, hk2, rfl, HZ, rfl⟩ := hrel
      by_cases hlt : k < 248
      · obtain ⟨ad2, y, e, q, Y, iy⟩ := hr0.get k (by have := HL.out; omega)
        obtain rfl := Option.some.inj e
        by_cases hy : y = 0
        · subst hy
          go_wp2_with fail
          go_roundw
          case rel => exact ⟨k + 1, by omega, by omega, by go_num, Lib.hid (fun j h1 h2 => by rcases Nat.lt_succ_iff_lt_or_eq.1 h2 with h | rfl; exact HZ.out j h1 h; exact Y.out), trivial⟩
          case measure => simp [intOf]; omega
        · have hyb : (y != 0) = true := by simpa using hy
          have z0 := hz.cell 0
          have z1 := hz.cell 1
          have z2 := hz.cell 2
          have z3 := hz.cell 3
          simp only [List.getElem?_toArray, List.getElem?_cons_succ, List.getElem?_cons_zero] at z0 z1 z2 z3
          have y0 := hz.frozen 0
          have y1 := hz.frozen 1
          have y2 := hz.frozen 2
          have y3 := hz.frozen 3
          have HB2 := Lib.hid (refDec_tail HL.out HSUM.out (m := m) (by rw [X0.out, X1.out, HP2.out]; omega) HN2.out hm (.inl (zeros_not HL.out hm (by omega) hlt (by rw [Y.out]; exact hy))))
          clear hy
          go_wp2_with fail
          rw [HB2.out]
          exact rdRet_bad (p := 2) (u := 3) (by kernel_rfl) rfl rfl (blk_store4 hz _ _ _ _) (up_store4 HU (Nat.le_refl _) _ _ _ _)
      · have hk8 : k = 248 := by omega
        subst hk8
        by_cases cQ : (l.drop 248).take 4 = (l.drop 2).take 4
        ·
          go_wp2_with fail
          have HW := (Up.refl wl).drew
          refine wp_region_tree (fun w' => Up wl w') (.quiet 0 (.quiet 1 (.quiet 2 (.quiet 3 (.alt 4 (.quiet 5 (.nil)) (.stop)))))) (by kernel_rfl) (by kernel_rfl) rfl (by kernel_rfl) (by kernel_rfl) (HW) ?_
          simp only [pickT, List.getElem?_cons_succ, List.getElem?_cons_zero, Option.getD_some]
          iterate 1 (refine tree_step rfl (fun K hK => ?_); go_big_quiet_step ((intro _; rfl)); refine wpQuiet_nil (hK _ ?_); clear hK K)
          obtain ⟨A9, e9, hr9⟩ := hr0.sliced 248 252 c (by omega) (by have := HL.out; omega) (by omega) (Nat.le_refl _)
          refine tree_slice_lh 5 1 (.int .u8 0) (some ad) 256 c .i64 .i64 248 252 Try.underlying22 infoU8 (by kernel_rfl) rfl rfl rfl (by omega) (by omega) (by omega) ?_
          rw [show sliced (some ad) (248 : Int).toNat (252 : Int).toNat c 1 = .slice A9 4 (c - 248) from e9]
          clear e9
          dsimp only [Act.put]
          simp only [List.setIfInBounds_toArray, List.set_cons_zero, List.set_cons_succ]
          iterate 1 (refine tree_step rfl (fun K hK => ?_); go_big_quiet_step ((intro _; rfl)); refine wpQuiet_nil (hK _ ?_); clear hK K)
          obtain ⟨A8, e8, hr8⟩ := hr0.sliced 2 6 c (by omega) (by have := HL.out; omega) (by omega) (Nat.le_refl _)
          refine tree_slice_lh 5 1 (.int .u8 0) (some ad) 256 c .i64 .i64 2 6 Try.underlying22 infoU8 (by kernel_rfl) rfl rfl rfl (by omega) (by omega) (by omega) ?_
          rw [show sliced (some ad) (2 : Int).toNat (6 : Int).toNat c 1 = .slice A8 4 (c - 2) from e8]
          clear e8
          dsimp only [Act.put]
          simp only [List.setIfInBounds_toArray, List.set_cons_zero, List.set_cons_succ]
          rw [show (l.take 252).drop 248 = (l.drop 248).take 4 from part_eq l 248 4] at hr9
          rw [show (l.take 6).drop 2 = (l.drop 2).take 4 from part_eq l 2 4] at hr8
          have h94 : 4 = ((l.drop 248).take 4).length := by rw [List.length_take, List.length_drop, HL.out]; omega
          have h84 : 4 = ((l.drop 2).take 4).length := by rw [List.length_take, List.length_drop, HL.out]; omega
          have HQ := Lib.hid h94
          have HQ2 := Lib.hid h84
          clear h94 h84
          generalize wl.drew = wc at *
          refine tree_do (fun K hK => ?_)
          go_wp2_with fail
          refine (refSame_n (hr9.up HW) (hr8.up HW) HQ.out HQ2.out).mono ?_
          rintro en wp ⟨rfl, hS⟩
          rw [decide_eq_true cQ]
          go_wp2_with fail
          refine ⟨HW.trans hS.up, ?_⟩
          replace HW := HW.trans hS.up
          clear hS
          repeat (refine tree_step rfl (fun K hK => ?_); go_big_quiet_step ((intro _; rfl)); refine wpQuiet_nil (hK _ ?_); clear hK K)
          refine tree_nil ?_
          replace hz := hz.up HW
          replace HU := HU.trans HW
          replace v0 := HW.cell v0
          replace v1 := HW.cell v1
          replace v2 := HW.cell v2
          replace v3 := HW.cell v3
          have z0 := hz.cell 0
          have z1 := hz.cell 1
          have z2 := hz.cell 2
          have z3 := hz.cell 3
          simp only [List.getElem?_toArray, List.getElem?_cons_succ, List.getElem?_cons_zero] at z0 z1 z2 z3
          have y0 := hz.frozen 0
          have y1 := hz.frozen 1
          have y2 := hz.frozen 2
          have y3 := hz.frozen 3
          have HB2 := Lib.hid (refDec_good HL.out HSUM.out (m := m) (by rw [X0.out, X1.out, HP2.out]; omega) HN2.out hm (zeros_all HL.out hm fun j a b => HZ.out j a b) cQ)
          clear cQ
          go_wp2_with fail
          rw [HB2.out, X1.out, HE2.out, HP2.out]
          exact rdRet_ok (p := 2) (u := 3) (by kernel_rfl) rfl rfl (blk_store4 hz _ _ _ _) (up_store4 HU (Nat.le_refl _) _ _ _ _) rfl rfl hm HL.out
        ·
          go_wp2_with fail
          have HW := (Up.refl wl).drew
          refine wp_region_tree (fun w' => Up wl w') (.quiet 0 (.quiet 1 (.quiet 2 (.quiet 3 (.alt 4 (.quiet 5 (.nil)) (.stop)))))) (by kernel_rfl) (by kernel_rfl) rfl (by kernel_rfl) (by kernel_rfl) (HW) ?_
          simp only [pickT, List.getElem?_cons_succ, List.getElem?_cons_zero, Option.getD_some]
          iterate 1 (refine tree_step rfl (fun K hK => ?_); go_big_quiet_step ((intro _; rfl)); refine wpQuiet_nil (hK _ ?_); clear hK K)
          obtain ⟨A9, e9, hr9⟩ := hr0.sliced 248 252 c (by omega) (by have := HL.out; omega) (by omega) (Nat.le_refl _)
          refine tree_slice_lh 5 1 (.int .u8 0) (some ad) 256 c .i64 .i64 248 252 Try.underlying22 infoU8 (by kernel_rfl) rfl rfl rfl (by omega) (by omega) (by omega) ?_
          rw [show sliced (some ad) (248 : Int).toNat (252 : Int).toNat c 1 = .slice A9 4 (c - 248) from e9]
          clear e9
          dsimp only [Act.put]
          simp only [List.setIfInBounds_toArray, List.set_cons_zero, List.set_cons_succ]
          iterate 1 (refine tree_step rfl (fun K hK => ?_); go_big_quiet_step ((intro _; rfl)); refine wpQuiet_nil (hK _ ?_); clear hK K)
          obtain ⟨A8, e8, hr8⟩ := hr0.sliced 2 6 c (by omega) (by have := HL.out; omega) (by omega) (Nat.le_refl _)
          refine tree_slice_lh 5 1 (.int .u8 0) (some ad) 256 c .i64 .i64 2 6 Try.underlying22 infoU8 (by kernel_rfl) rfl rfl rfl (by omega) (by omega) (by omega) ?_
          rw [show sliced (some ad) (2 : Int).toNat (6 : Int).toNat c 1 = .slice A8 4 (c - 2) from e8]
          clear e8
          dsimp only [Act.put]
          simp only [List.setIfInBounds_toArray, List.set_cons_zero, List.set_cons_succ]
          rw [show (l.take 252).drop 248 = (l.drop 248).take 4 from part_eq l 248 4] at hr9
          rw [show (l.take 6).drop 2 = (l.drop 2).take 4 from part_eq l 2 4] at hr8
          have h94 : 4 = ((l.drop 248).take 4).length := by rw [List.length_take, List.length_drop, HL.out]; omega
          have h84 : 4 = ((l.drop 2).take 4).length := by rw [List.length_take, List.length_drop, HL.out]; omega
          have HQ := Lib.hid h94
          have HQ2 := Lib.hid h84
          clear h94 h84
          generalize wl.drew = wc at *
          refine tree_do (fun K hK => ?_)
          go_wp2_with fail
          refine (refSame_n (hr9.up HW) (hr8.up HW) HQ.out HQ2.out).mono ?_
          rintro en wp ⟨rfl, hS⟩
          rw [decide_eq_false cQ]
          go_wp2_with fail
          refine ⟨HW.trans hS.up, ?_⟩
          replace HW := HW.trans hS.up
          clear hS
          repeat (refine tree_step rfl (fun K hK => ?_); go_big_quiet_step ((intro _; rfl)); refine wpQuiet_nil (hK _ ?_); clear hK K)
          refine tree_nil ?_
          replace hz := hz.up HW
          replace HU := HU.trans HW
          replace v0 := HW.cell v0
          replace v1 := HW.cell v1
          replace v2 := HW.cell v2
          replace v3 := HW.cell v3
          have z0 := hz.cell 0
          have z1 := hz.cell 1
          have z2 := hz.cell 2
          have z3 := hz.cell 3
          simp only [List.getElem?_toArray, List.getElem?_cons_succ, List.getElem?_cons_zero] at z0 z1 z2 z3
          have y0 := hz.frozen 0
          have y1 := hz.frozen 1
          have y2 := hz.frozen 2
          have y3 := hz.frozen 3
          have HB2 := Lib.hid (refDec_tail HL.out HSUM.out (m := m) (by rw [X0.out, X1.out, HP2.out]; omega) HN2.out hm (.inr cQ))
          clear cQ
          go_wp2_with fail
          rw [HB2.out]
          exact rdRet_bad (p := 2) (u := 3) (by kernel_rfl) rfl rfl (blk_store4 hz _ _ _ _) (up_store4 HU (Nat.le_refl _) _ _ _ _)
  ·
    have hd : (x0 != 241) = true := by simpa using cA
    go_wp2_with fail
    rw [refDec_bad HL.out HSUM.out (by rw [X0.out]; exact .inl cA)]
    exact rdRet_bad (p := 2) (u := 3) (by kernel_rfl) rfl rfl (blk_store4 hz _ _ _ _) (up_store4 HU (Nat.le_refl _) _ _ _ _)

theorem ref4Decode_calls (A : Option Addr) (c : Nat) (l : List Int) (w : World) (h1 : Rd w .u8 A c l) :
    Calls Try.prog 46 #[.slice A l.length c] w (RDPost A c l w (refDec l)) := by
  by_cases hl : l.length = 256
  · cases hs : decide (l.drop 252 = low4 (CrcPlain.crc (l.take 252))) with
    | true =>
      have := ref4_a A c l w h1 (Lib.hid hl) (Lib.hid hs)
      rw [hl]
      exact this
    | false =>
      have hd : refDec l = (0, 0, 0, [], 5) := by
        unfold refDec
        rw [if_neg (show ¬ l.length ≠ 256 by omega), if_pos (of_decide_eq_false hs)]
      have := ref4_sum A c l w h1 (Lib.hid hl) (Lib.hid hs)
      rw [hl, hd]
      exact this
  · have hd : refDec l = (0, 0, 0, [], 2) := by unfold refDec; rw [if_pos hl]
    rw [hd]
    exact ref4_len A c l w h1 hl
end Go.Proofs.Ytehdigkjbobndaa
