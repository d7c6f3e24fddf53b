/- Layer 12: put, of a word; what else may have changed is told by block. -/
import Derived.Test.YtneliajeokajbaaPkPut
namespace Go.Proofs.Ytneliajeokajbaa
open Go.RowKit
set_option maxRecDepth 100000

/-- Only the array at block g, or its words, may have changed. -/
structure PutX (w : World) (g base width n m : Nat) (ws : List Int) (A : Option Addr) (c : Nat) (v : Nat) (en : Ending) (w' : World) : Prop where mk ::
  ret : en = .returned (.tuple #[])
  out : ∃ ws', (Blk w' g 119 #[.int .i64 width, .int .i64 n, .slice A ws'.length c] ∧ Own w' base 71 .u64 (.slice A ws'.length c) ws') ∧ ws'.length = ws.length ∧ (∀ b, wbit ws' b = if m ≤ b ∧ b < m + width then v.testBit (b - m) else wbit ws b)
  up : UpX (fun x => (Value.slice A 0 c).ownBlock = some x) w w'

set_option maxHeartbeats 4000000 in
theorem packedPutX_calls (g base width n i v : Nat) (ws : List Int) (A : Option Addr) (c : Nat) (w : World) (hb : Blk w g 119 #[.int .i64 width, .int .i64 n, .slice A ws.length c]) (ho : Own w base 71 .u64 (.slice A ws.length c) ws)
    (h1 : 1 ≤ width) (h2 : width ≤ 31) (hi : i ≤ 65536) (hv : v < 2 ^ width) (hw : width * i + width ≤ 64 * ws.length) :
    Calls Try.prog 88 #[.pointer (some ⟨g, 0, none⟩), .int .i64 i, .int .i64 v] w (PutX w g base width n (width * i) ws A c v) := by
  have g0 : w.cell? ⟨g, 0, none⟩ = some (.int .i64 width) := hb.cell 0
  have g2 : w.cell? ⟨g, 2, none⟩ = some (.slice A ws.length c) := hb.cell 2
  have hm : width * i ≤ 31 * 65536 := Nat.mul_le_mul h2 hi
  have em : ((width : Int) * (i : Int)) = ((width * i : Nat) : Int) := by simp
  generalize hM : width * i = m at *
  clear hM
  obtain ⟨gw, c', he, hgb, hc, hf, hset⟩ := ho.store (m / 64) (by omega)
  simp only [Value.slice.injEq, true_and] at he
  obtain ⟨rfl, rfl⟩ := he
  have hv31 : v < 2147483648 := Nat.lt_of_lt_of_le hv (Nat.pow_le_pow_right (by decide) h2)
  have hx := ho.wf (ws.getD (m / 64) 0) (by rw [List.getD_eq_getElem?_getD, List.getElem?_eq_getElem (show m / 64 < ws.length by omega)]; exact List.getElem_mem _)
  obtain ⟨X, HX⟩ := Int.eq_ofNat_of_zero_le hx.u64.1
  rw [HX] at hc
  have HXX : Hid (X < 18446744073709551616) := Lib.hid (by have := hx.u64.2; omega)
  clear hx
  have hmk := mask_lt width h2
  have HV := Lib.hid hv
  clear hv
  by_cases hov : 64 < m % 64 + width
  · have hd : (64 : Int) < (m : Int) % 64 + (width : Int) := by omega
    have hq3 : m / 64 + 1 < ws.length := by omega
    have HOV := Lib.hid hov
    clear hov
    go_enter Try.func88, Try.ntmps88
    go_wp2_with fail
    go_quiet (fail)
    go_wp2_with fail
    rw [mask_run width h2]
    have HMB := Lib.hid (fun k => mask_bit width k)
    generalize 2 ^ width - 1 = M at *
    refine wp_region_tree (Cells [(⟨g, 2, none⟩, .slice (some ⟨gw, 0, none⟩) ws.length c), (⟨gw, m / 64, none⟩, .int .u64 X)]) (.quiet 0 (.quiet 1 (.quiet 2 (.quiet 3 (.quiet 4 (.quiet 5 (.quiet 6 (.quiet 7 (.quiet 8 (.quiet 9 (.quiet 10 (.quiet 11 (.quiet 12 (.quiet 13 (.quiet 14 (.quiet 15 (.quiet 16 (.quiet 17 (.quiet 18 (.quiet 19 (.quiet 20 (.quiet 21 (.alt 22 (.nil) (.stop)))))))))))))))))))))))) (by kernel_rfl) (by kernel_rfl) rfl (by kernel_rfl) (by kernel_rfl) (Cells.cons g2 (Cells.cons hc (Cells.nil _))) ?_
    simp only [pickT, List.getElem?_cons_succ, List.getElem?_cons_zero, Option.getD_some]
    repeat (refine tree_step rfl (fun K hK => ?_); go_big_quiet_step ((intro _; rfl)); refine wpQuiet_nil (hK _ ?_); clear hK K)
    refine tree_load ⟨g, 2, none⟩ (.slice (some ⟨gw, 0, none⟩) ws.length c) (by kernel_rfl) rfl (by kernel_rfl) (fun w' h => h.head) ?_
    dsimp only [Act.put]
    simp only [List.setIfInBounds_toArray, List.set_cons_zero, List.set_cons_succ]
    repeat (refine tree_step rfl (fun K hK => ?_); go_big_quiet_step ((intro _; rfl)); refine wpQuiet_nil (hK _ ?_); clear hK K)
    refine tree_load ⟨g, 2, none⟩ (.slice (some ⟨gw, 0, none⟩) ws.length c) (by kernel_rfl) rfl (by kernel_rfl) (fun w' h => h.head) ?_
    dsimp only [Act.put]
    simp only [List.setIfInBounds_toArray, List.set_cons_zero, List.set_cons_succ]
    repeat (refine tree_step rfl (fun K hK => ?_); go_big_quiet_step ((intro _; rfl)); refine wpQuiet_nil (hK _ ?_); clear hK K)
    refine tree_load ⟨gw, m / 64, none⟩ (.int .u64 X) (by kernel_rfl) rfl (by kernel_rfl) (fun w' h => h.tail.head) ?_
    dsimp only [Act.put]
    simp only [List.setIfInBounds_toArray, List.set_cons_zero, List.set_cons_succ]
    repeat (refine tree_step rfl (fun K hK => ?_); go_big_quiet_step ((intro _; rfl)); refine wpQuiet_nil (hK _ ?_); clear hK K)
    refine tree_do (fun K hK => ?_)
    go_wp2_with fail
    refine ⟨trivial, ?_⟩
    refine tree_nil ?_
    rw [put1_run X M v (m % 64) HXX.out]
    have hud : Up w (w.drewN (nq + 1)) := (Up.refl _).drewN _
    generalize w.drewN (nq + 1) = wd at *
    obtain ⟨gw', c', he, _, _, _, hset2⟩ := (ho.up hud).store (m / 64) (by omega)
    simp only [Value.slice.injEq, true_and, Option.some.injEq, Addr.mk.injEq, and_true] at he
    obtain ⟨rfl, rfl⟩ := he
    have hbd := hb.up hud
    have hne : g ≠ gw := fun e => by
      have h3 : Typed w 119 g := ⟨_, _, hb.out⟩
      have h4 := ho.typed gw rfl
      rw [e] at h3
      exact absurd (h3.ne h4) (by decide)
    have hb1 := hbd.other ⟨gw, m / 64, none⟩ (.int .u64 (put1 X M v (m % 64) : Nat)) hne
    have ho1 := hset2 (put1 X M v (m % 64) : Nat) (InK.of_u64 (by omega) (by have := put1_lt X M v (m % 64) HXX.out; omega))
    have g01 : (wd.setCell ⟨gw, m / 64, none⟩ (.int .u64 (put1 X M v (m % 64) : Nat))).cell? ⟨g, 0, none⟩ = some (.int .i64 width) := hb1.cell 0
    have g21 : (wd.setCell ⟨gw, m / 64, none⟩ (.int .u64 (put1 X M v (m % 64) : Nat))).cell? ⟨g, 2, none⟩ = some (.slice (some ⟨gw, 0, none⟩) ws.length c) := hb1.cell 2
    have hx1 : UpX (fun b => b = gw) wd (wd.setCell ⟨gw, m / 64, none⟩ (.int .u64 (put1 X M v (m % 64) : Nat))) := UpX.one _ _ _ _
    generalize (wd.setCell ⟨gw, m / 64, none⟩ (.int .u64 (put1 X M v (m % 64) : Nat))) = w1 at *
    have hl1 : (ws.set (m / 64) (put1 X M v (m % 64) : Nat)).length = ws.length := by simp
    have hgq : (ws.set (m / 64) (put1 X M v (m % 64) : Nat)).getD (m / 64 + 1) 0 = ws.getD (m / 64 + 1) 0 := by rw [getD_set _ _ _ _ (by omega), if_neg (by omega)]
    obtain ⟨gw', c', he, _, hc2, hf2, hset3⟩ := ho1.store (m / 64 + 1) (by omega)
    simp only [Value.slice.injEq, Option.some.injEq, Addr.mk.injEq, and_true] at he
    obtain ⟨rfl, hl9, rfl⟩ := he
    clear hl9
    rw [hgq] at hc2
    have hy := ho.wf (ws.getD (m / 64 + 1) 0) (by rw [List.getD_eq_getElem?_getD, List.getElem?_eq_getElem hq3]; exact List.getElem_mem _)
    obtain ⟨Y, HY⟩ := Int.eq_ofNat_of_zero_le hy.u64.1
    rw [HY] at hc2
    have HYY : Hid (Y < 18446744073709551616) := Lib.hid (by have := hy.u64.2; omega)
    have HY2 := Lib.hid HY
    have HX2 := Lib.hid HX
    have HL1 := Lib.hid hl1
    clear hy HY HX hgq hl1
    go_wp2_with fail
    refine wp_region_tree (Cells [(⟨g, 2, none⟩, .slice (some ⟨gw, 0, none⟩) ws.length c), (⟨gw, m / 64 + 1, none⟩, .int .u64 Y)]) (.quiet 0 (.quiet 1 (.quiet 2 (.quiet 3 (.quiet 4 (.quiet 5 (.quiet 6 (.quiet 7 (.quiet 8 (.quiet 9 (.quiet 10 (.quiet 11 (.quiet 12 (.quiet 13 (.quiet 14 (.quiet 15 (.quiet 16 (.quiet 17 (.quiet 18 (.quiet 19 (.quiet 20 (.quiet 21 (.quiet 22 (.quiet 23 (.quiet 24 (.quiet 25 (.alt 26 (.nil) (.stop)))))))))))))))))))))))))))) (by kernel_rfl) (by kernel_rfl) rfl (by kernel_rfl) (by kernel_rfl) (Cells.cons g21 (Cells.cons hc2 (Cells.nil _))) ?_
    simp only [pickT, List.getElem?_cons_succ, List.getElem?_cons_zero, Option.getD_some]
    repeat (refine tree_step rfl (fun K hK => ?_); go_big_quiet_step ((intro _; rfl)); refine wpQuiet_nil (hK _ ?_); clear hK K)
    refine tree_load ⟨g, 2, none⟩ (.slice (some ⟨gw, 0, none⟩) ws.length c) (by kernel_rfl) rfl (by kernel_rfl) (fun w' h => h.head) ?_
    dsimp only [Act.put]
    simp only [List.setIfInBounds_toArray, List.set_cons_zero, List.set_cons_succ]
    repeat (refine tree_step rfl (fun K hK => ?_); go_big_quiet_step ((intro _; rfl)); refine wpQuiet_nil (hK _ ?_); clear hK K)
    refine tree_load ⟨g, 2, none⟩ (.slice (some ⟨gw, 0, none⟩) ws.length c) (by kernel_rfl) rfl (by kernel_rfl) (fun w' h => h.head) ?_
    dsimp only [Act.put]
    simp only [List.setIfInBounds_toArray, List.set_cons_zero, List.set_cons_succ]
    repeat (refine tree_step rfl (fun K hK => ?_); go_big_quiet_step ((intro _; rfl)); refine wpQuiet_nil (hK _ ?_); clear hK K)
    refine tree_load ⟨gw, m / 64 + 1, none⟩ (.int .u64 Y) (by kernel_rfl) rfl (by kernel_rfl) (fun w' h => h.tail.head) ?_
    dsimp only [Act.put]
    simp only [List.setIfInBounds_toArray, List.set_cons_zero, List.set_cons_succ]
    iterate 3 (refine tree_step rfl (fun K hK => ?_); go_big_quiet_step ((intro _; rfl)); refine wpQuiet_nil (hK _ ?_); clear hK K)
    refine tree_bin (.int .u64 M) (.int .i64 (64 - (m : Int) % 64)) (.int .u64 (shr64 M (64 - m % 64) : Nat)) (by kernel_rfl) rfl rfl rfl (fun w => run_shr_u64 w _ M (64 - m % 64) _ (by omega) (by omega)) ?_
    dsimp only [Act.put]
    simp only [List.setIfInBounds_toArray, List.set_cons_zero, List.set_cons_succ]
    iterate 5 (refine tree_step rfl (fun K hK => ?_); go_big_quiet_step ((intro _; rfl)); refine wpQuiet_nil (hK _ ?_); clear hK K)
    refine tree_bin (.int .u64 v) (.int .i64 (64 - (m : Int) % 64)) (.int .u64 (shr64 v (64 - m % 64) : Nat)) (by kernel_rfl) rfl rfl rfl (fun w => run_shr_u64 w _ v (64 - m % 64) _ (by omega) (by omega)) ?_
    dsimp only [Act.put]
    simp only [List.setIfInBounds_toArray, List.set_cons_zero, List.set_cons_succ]
    repeat (refine tree_step rfl (fun K hK => ?_); go_big_quiet_step ((intro _; rfl)); refine wpQuiet_nil (hK _ ?_); clear hK K)
    refine tree_do (fun K hK => ?_)
    go_wp2_with fail
    refine ⟨trivial, ?_⟩
    refine tree_nil ?_
    rw [put2_run Y M v (64 - m % 64) HYY.out (by omega) (by omega)]
    have hb2 := (hb1.other ⟨gw, m / 64 + 1, none⟩ (.int .u64 (put2 Y M v (64 - m % 64) : Nat)) hne).drew
    have ho2 := (hset3 (put2 Y M v (64 - m % 64) : Nat) (InK.of_u64 (by omega) (by have := put2_lt Y M v (64 - m % 64) HYY.out (by omega); omega))).up ((Up.refl _).drew)
    have hx2 : UpX (fun b => b = gw) w1 (w1.setCell ⟨gw, m / 64 + 1, none⟩ (.int .u64 (put2 Y M v (64 - m % 64) : Nat))).drew := (UpX.one _ _ _ _).drew
    generalize (w1.setCell ⟨gw, m / 64 + 1, none⟩ (.int .u64 (put2 Y M v (64 - m % 64) : Nat))).drew = w2 at *
    go_wp2_with fail
    go_end0
    have hov2 := HOV.out
    refine ⟨rfl, ⟨(ws.set (m / 64) (put1 X M v (m % 64) : Nat)).set (m / 64 + 1) (put2 Y M v (64 - m % 64) : Nat), ⟨by simpa using hb2, by simpa using ho2⟩, by simp, fun b => ?_⟩, ?_⟩
    · rw [wbit_set _ _ _ _ (by rw [HL1.out]; omega)]
      by_cases hbq2 : b / 64 = m / 64 + 1
      · rw [if_pos hbq2, put2_bit Y M v (64 - m % 64) width (b % 64) HMB.out (by omega) HV.out (by omega)]
        have hw9 : wbit ws b = Y.testBit (b % 64) := by unfold wbit; rw [hbq2, HY2.out]; rfl
        rw [hw9]
        by_cases h9 : m ≤ b ∧ b < m + width
        · rw [if_pos h9, if_pos (by omega), show b % 64 + (64 - m % 64) = b - m by omega]
        · rw [if_neg h9, if_neg (by omega)]
      · rw [if_neg hbq2, wbit_set _ _ _ _ (by omega)]
        by_cases hbq : b / 64 = m / 64
        · rw [if_pos hbq, put1_bit X M v (m % 64) width (b % 64) HMB.out HV.out (by omega)]
          have hw9 : wbit ws b = X.testBit (b % 64) := by unfold wbit; rw [hbq, HX2.out]; rfl
          rw [hw9]
          by_cases h9 : m ≤ b ∧ b < m + width
          · rw [if_pos h9, if_pos (by omega), show b % 64 - m % 64 = b - m by omega]
          · rw [if_neg h9, if_neg (by omega)]
        · rw [if_neg hbq, if_neg (by omega)]
    · exact ((hud.x _).trans (hx1.trans hx2)).mono (by rintro k _ rfl; rfl)
  · have hd : decide (64 < (m : Int) % 64 + (width : Int)) = false := by simp; omega
    go_enter Try.func88, Try.ntmps88
    go_wp2_with fail
    go_quiet (fail)
    go_wp2_with fail
    rw [mask_run width h2]
    have HMB := Lib.hid (fun k => mask_bit width k)
    generalize 2 ^ width - 1 = M at *
    refine wp_region_tree (Cells [(⟨g, 2, none⟩, .slice (some ⟨gw, 0, none⟩) ws.length c), (⟨gw, m / 64, none⟩, .int .u64 X)]) (.quiet 0 (.quiet 1 (.quiet 2 (.quiet 3 (.quiet 4 (.quiet 5 (.quiet 6 (.quiet 7 (.quiet 8 (.quiet 9 (.quiet 10 (.quiet 11 (.quiet 12 (.quiet 13 (.quiet 14 (.quiet 15 (.quiet 16 (.quiet 17 (.quiet 18 (.quiet 19 (.quiet 20 (.quiet 21 (.alt 22 (.nil) (.stop)))))))))))))))))))))))) (by kernel_rfl) (by kernel_rfl) rfl (by kernel_rfl) (by kernel_rfl) (Cells.cons g2 (Cells.cons hc (Cells.nil _))) ?_
    simp only [pickT, List.getElem?_cons_succ, List.getElem?_cons_zero, Option.getD_some]
    repeat (refine tree_step rfl (fun K hK => ?_); go_big_quiet_step ((intro _; rfl)); refine wpQuiet_nil (hK _ ?_); clear hK K)
    refine tree_load ⟨g, 2, none⟩ (.slice (some ⟨gw, 0, none⟩) ws.length c) (by kernel_rfl) rfl (by kernel_rfl) (fun w' h => h.head) ?_
    dsimp only [Act.put]
    simp only [List.setIfInBounds_toArray, List.set_cons_zero, List.set_cons_succ]
    repeat (refine tree_step rfl (fun K hK => ?_); go_big_quiet_step ((intro _; rfl)); refine wpQuiet_nil (hK _ ?_); clear hK K)
    refine tree_load ⟨g, 2, none⟩ (.slice (some ⟨gw, 0, none⟩) ws.length c) (by kernel_rfl) rfl (by kernel_rfl) (fun w' h => h.head) ?_
    dsimp only [Act.put]
    simp only [List.setIfInBounds_toArray, List.set_cons_zero, List.set_cons_succ]
    repeat (refine tree_step rfl (fun K hK => ?_); go_big_quiet_step ((intro _; rfl)); refine wpQuiet_nil (hK _ ?_); clear hK K)
    refine tree_load ⟨gw, m / 64, none⟩ (.int .u64 X) (by kernel_rfl) rfl (by kernel_rfl) (fun w' h => h.tail.head) ?_
    dsimp only [Act.put]
    simp only [List.setIfInBounds_toArray, List.set_cons_zero, List.set_cons_succ]
    repeat (refine tree_step rfl (fun K hK => ?_); go_big_quiet_step ((intro _; rfl)); refine wpQuiet_nil (hK _ ?_); clear hK K)
    refine tree_do (fun K hK => ?_)
    go_wp2_with fail
    refine ⟨trivial, ?_⟩
    refine tree_nil ?_
    rw [put1_run X M v (m % 64) HXX.out]
    have hud : Up w (w.drewN (nq + 1)) := (Up.refl _).drewN _
    generalize w.drewN (nq + 1) = wd at *
    obtain ⟨gw', c', he, _, _, _, hset2⟩ := (ho.up hud).store (m / 64) (by omega)
    simp only [Value.slice.injEq, true_and, Option.some.injEq, Addr.mk.injEq, and_true] at he
    obtain ⟨rfl, rfl⟩ := he
    have hbd := hb.up hud
    have hne : g ≠ gw := fun e => by
      have h3 : Typed w 119 g := ⟨_, _, hb.out⟩
      have h4 := ho.typed gw rfl
      rw [e] at h3
      exact absurd (h3.ne h4) (by decide)
    have hb1 := hbd.other ⟨gw, m / 64, none⟩ (.int .u64 (put1 X M v (m % 64) : Nat)) hne
    have ho1 := hset2 (put1 X M v (m % 64) : Nat) (InK.of_u64 (by omega) (by have := put1_lt X M v (m % 64) HXX.out; omega))
    have g01 : (wd.setCell ⟨gw, m / 64, none⟩ (.int .u64 (put1 X M v (m % 64) : Nat))).cell? ⟨g, 0, none⟩ = some (.int .i64 width) := hb1.cell 0
    have hx1 : UpX (fun b => b = gw) wd (wd.setCell ⟨gw, m / 64, none⟩ (.int .u64 (put1 X M v (m % 64) : Nat))) := UpX.one _ _ _ _
    generalize (wd.setCell ⟨gw, m / 64, none⟩ (.int .u64 (put1 X M v (m % 64) : Nat))) = w1 at *
    go_wp2_with fail
    go_end0
    refine ⟨rfl, ⟨ws.set (m / 64) (put1 X M v (m % 64) : Nat), ⟨by simpa using hb1, by simpa using ho1⟩, by simp, fun b => ?_⟩, ?_⟩
    · rw [wbit_set _ _ _ _ (by omega)]
      by_cases hbq : b / 64 = m / 64
      · rw [if_pos hbq, put1_bit X M v (m % 64) width (b % 64) HMB.out HV.out (by omega)]
        have hw9 : wbit ws b = X.testBit (b % 64) := by unfold wbit; rw [hbq, HX]; rfl
        rw [hw9]
        by_cases h9 : m ≤ b ∧ b < m + width
        · rw [if_pos h9, if_pos (by omega), show b % 64 - m % 64 = b - m by omega]
        · rw [if_neg h9, if_neg (by omega)]
      · rw [if_neg hbq, if_neg (by omega)]
    · exact ((hud.x _).trans hx1).mono (by rintro k _ rfl; rfl)
end Go.Proofs.Ytneliajeokajbaa
