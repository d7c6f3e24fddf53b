/- Layer 12: Bytes, of an array. -/
import Derived.Test.YtneliajeokajbaaPkMk
namespace Go.Proofs.Ytneliajeokajbaa
open Go.RowKit
set_option maxRecDepth 100000

/-- The i-th byte of the words. -/
def wbyte (ws : List Int) (i : Nat) : Int := ((shr64 (ws.getD (i / 8) 0).toNat (8 * (i % 8)) % 256 : Nat) : Int)
def pkBytes (width n : Nat) (ws : List Int) : List Int := ((width : Int) :: vput n) ++ (List.range ((width * n + 7) / 8)).map (wbyte ws)

set_option maxHeartbeats 4000000 in
theorem packedBytes_calls (g base width n : Nat) (ws l : List Int) (w : World) (ha : PArr w g base width n ws) (hk : PkOk width n ws l) (h1 : 1 ≤ width) (h2 : width ≤ 31) (hn : n ≤ 65536) :
    Calls Try.prog 52 #[.pointer (some ⟨g, 0, none⟩)] w (RetOwn w 5 .u8 (pkBytes width n ws)) := by
  obtain ⟨A, c, hb, ho⟩ := ha
  have g0 : w.cell? ⟨g, 0, none⟩ = some (.int .i64 width) := hb.cell 0
  have g1 : w.cell? ⟨g, 1, none⟩ = some (.int .i64 n) := hb.cell 1
  have hw8 : (width : Int) % 256 = (width : Int) := by omega
  have hiw : InK .u8 (width : Int) := InK.of_u8 (by omega) (by omega)
  have hin : InK .i64 (n : Int) := InK.of_i64 (by omega) (by omega)
  have HLV := Lib.hid (show (vputs [(n : Int)]).length ≤ 10 by have := vput_len10 n (by omega); simpa [vputs] using this)
  generalize hS : (width * n + 7) / 8 = S at *
  have HSW := Lib.hid (show (S + 7) / 8 ≤ ws.length by rw [hk.size]; omega)
  have HSZ := Lib.hid (show sizeOf12 width n = (S : Int) by
    unfold sizeOf12
    rw [if_pos ⟨by unfold rightW; rw [decide_eq_true (by omega), decide_eq_true (by omega)]; rfl, by omega, by omega⟩, ← hS]
    simp)
  have HS := Lib.hid hS
  have hSm : S ≤ 300000 := by
    have : width * n ≤ 31 * 65536 := Nat.mul_le_mul h2 hn
    omega
  clear hS
  go_enter Try.func52, Try.ntmps52
  go_wp2_with fail
  refine wp_region_tree (fun w' => Up w w') (.quiet 0 (.quiet 1 (.quiet 2 (.quiet 3 (.quiet 4 (.quiet 6 (.quiet 7 (.quiet 8 (.quiet 9 (.alt 5 (.alt 10 (.alt 11 (.alt 12 (.quiet 13 (.nil)) (.stop)) (.stop)) (.stop)) (.alt 10 (.alt 5 (.alt 11 (.alt 12 (.quiet 13 (.nil)) (.stop)) (.stop)) (.alt 11 (.alt 5 (.alt 12 (.quiet 13 (.nil)) (.stop)) (.stop)) (.stop))) (.stop)))))))))))) (by kernel_rfl) (by kernel_rfl) rfl (by kernel_rfl) (by kernel_rfl) ((Up.refl w).drew) ?_
  simp only [pickT, List.getElem?_cons_succ, List.getElem?_cons_zero, Option.getD_some]
  repeat (refine tree_step rfl (fun K hK => ?_); go_big_quiet_step ((intro _; rfl)); refine wpQuiet_nil (hK _ ?_); clear hK K)
  refine tree_load ⟨g, 0, none⟩ (.int .i64 width) (by kernel_rfl) rfl (by kernel_rfl) (fun w' h => h.cell g0) ?_
  dsimp only [Act.put]
  simp only [List.setIfInBounds_toArray, List.set_cons_zero, List.set_cons_succ]
  repeat (refine tree_step rfl (fun K hK => ?_); go_big_quiet_step ((intro _; rfl)); refine wpQuiet_nil (hK _ ?_); clear hK K)
  refine tree_load ⟨g, 1, none⟩ (.int .i64 n) (by kernel_rfl) rfl (by kernel_rfl) (fun w' h => h.cell g1) ?_
  dsimp only [Act.put]
  simp only [List.setIfInBounds_toArray, List.set_cons_zero, List.set_cons_succ]
  refine tree_alt (fun K hK => ?_) ?_
  ·
    go_wp2_with fail
    have hU1 : Up w (w.alloc (.cells #[.int .u8 width] 5)).drew := ((Up.refl _).alloc _).drew
    refine ⟨hU1, ?_⟩
    have hoW : Own (w.alloc (.cells #[.int .u8 width] 5)).drew w.heap.size 5 .u8 (.slice (some ⟨w.heap.size, 0, none⟩) 1 1) [(width : Int)] := (Own.lit w w.heap.size 5 .u8 [(width : Int)] (Nat.le_refl _) (by simp) (by simpa using hiw) 1 rfl _ rfl).up ((Up.refl _).drew)
    generalize (w.alloc (.cells #[.int .u8 width] 5)).drew = w1 at *
    refine tree_do (fun K hK => ?_)
    go_wp2_with fail
    have hU2 : Up w1 (w1.alloc (.cells #[.int .i64 n] 3)) := (Up.refl _).alloc _
    have hrN := rd_one w1 .i64 3 (n : Int) hin
    refine ⟨hU1.trans hU2, ?_⟩
    generalize (w1.alloc (.cells #[.int .i64 n] 3)) = w2 at *
    refine tree_do (fun K hK => ?_)
    go_wp2_with fail
    refine (varPut_calls (some ⟨w1.heap.size, 0, none⟩) 1 [(n : Int)] w2 hrN (by simp)).mono ?_
    rintro e w3 ⟨v3, rfl, hv3, hu3⟩
    obtain ⟨B3, c3, rfl, hr3⟩ := hv3.rd
    have hl3 := HLV.out
    go_wp2_with fail
    have hUA := hU1.trans (hU2.trans hu3)
    have hoA := hoW.up (hU2.trans hu3)
    refine ⟨hUA, ?_⟩
    refine tree_do (fun K hK => ?_)
    go_wp2_with (refine wpl_append (t := 76) w.heap.size 5 .u8 1 Try.underlying76 infoU8 _ [(width : Int)] rfl hoA B3 _ c3 (vputs [(n : Int)]) rfl rfl hr3 (by simp; omega) (by decide) (by have := hUA.size; omega) ?_; intro v9 w9 hv9 hu9 _)
    have hloA := hoA.lt
    have hU9 : Up w w9 := hUA.thenx hu9 fun i hi e => by have := (hloA i e).1; omega
    refine ⟨hU9, ?_⟩
    dsimp only [Act.put]
    simp only [List.setIfInBounds_toArray, List.set_cons_zero, List.set_cons_succ]
    repeat (refine tree_step rfl (fun K hK => ?_); go_big_quiet_step ((intro _; rfl)); refine wpQuiet_nil (hK _ ?_); clear hK K)
    refine tree_nil ?_
    clear hloA
    go_wp2_with fail
    refine wp_region_pick (fun w' => Up w9 w') [(true, 0), (true, 1), (true, 2), (true, 3), (true, 4), (true, 5), (true, 6), (true, 7), (true, 9), (false, 8)] (by kernel_rfl) (by kernel_rfl) (by kernel_rfl) (by kernel_rfl) (by kernel_rfl) ((Up.refl w9).drew) ?_
    simp only [pick, List.map_cons, List.map_nil, List.getElem?_cons_succ, List.getElem?_cons_zero, Option.getD_some]
    repeat (refine pi_step rfl (fun K hK => ?_); go_big_quiet_step ((intro _; rfl)); refine wpQuiet_nil (hK _ ?_); clear hK K)
    refine pi_load ⟨g, 0, none⟩ (.int .i64 width) (by kernel_rfl) rfl (by kernel_rfl) (fun w' h => (hU9.trans h).cell g0) ?_
    dsimp only [Act.put]
    simp only [List.setIfInBounds_toArray, List.set_cons_zero, List.set_cons_succ]
    repeat (refine pi_step rfl (fun K hK => ?_); go_big_quiet_step ((intro _; rfl)); refine wpQuiet_nil (hK _ ?_); clear hK K)
    refine pi_load ⟨g, 1, none⟩ (.int .i64 n) (by kernel_rfl) rfl (by kernel_rfl) (fun w' h => (hU9.trans h).cell g1) ?_
    dsimp only [Act.put]
    simp only [List.setIfInBounds_toArray, List.set_cons_zero, List.set_cons_succ]
    repeat (refine pi_step rfl (fun K hK => ?_); go_big_quiet_step ((intro _; rfl)); refine wpQuiet_nil (hK _ ?_); clear hK K)
    refine pi_do (fun K hK => ?_)
    go_wp2_with fail
    refine (packedSize_calls width n _).mono ?_
    rw [HSZ.out]
    rintro e w' ⟨rfl, rfl⟩
    go_wp2_with fail
    refine ⟨(Up.refl w9).drew, ?_⟩
    refine pi_nil ?_
    have hUd := hU9.trans (Up.refl w9).drew
    have hvd := hv9.up (Up.refl w9).drew
    generalize w9.drew = wd at *
    generalize hX : [(width : Int)] ++ vputs [(n : Int)] = X at *
    have HXL := Lib.hid (show X.length ≤ 11 by rw [← hX]; have := HLV.out; simp; omega)
    have HX := Lib.hid hX
    clear hX hv9 hu9 hr3 hoA
    obtain ⟨A9, c9, rfl, hr9⟩ := hvd.rd
    go_wp2_with fail
    go_loopw [3, 4, 29] (fun o _ i wr => ∃ k : Nat, k ≤ S ∧ i = .int .i64 k ∧ Own wr w.heap.size 5 .u8 o (X ++ (List.range k).map (wbyte ws)) ∧ Up w wr) (fun _ _ i _ => S - (intOf i).toNat)
    case atStart => exact ⟨0, by omega, rfl, by simpa using hvd, hUd⟩
    case round =>
      obtain ⟨k, hk2, rfl, ho2, hu2⟩ := hrel
      by_cases hlt : k < S
      · obtain ⟨gw, c', he, _, hc, _, _⟩ := (ho.up hu2).store (k / 8) (by have := HSW.out; omega)
        simp only [Value.slice.injEq, true_and] at he
        obtain ⟨rfl, rfl⟩ := he
        have hx := ho.wf (ws.getD (k / 8) 0) (by have := HSW.out; rw [List.getD_eq_getElem?_getD, List.getElem?_eq_getElem (show k / 8 < ws.length by omega)]; exact List.getElem_mem _)
        obtain ⟨Y, HY⟩ := Int.eq_ofNat_of_zero_le hx.u64.1
        rw [HY] at hc
        have HYY : Hid (Y < 18446744073709551616) := Lib.hid (by have := hx.u64.2; omega)
        have HY2 := Lib.hid HY
        clear hx HY
        have gr2 : wr.cell? ⟨g, 2, none⟩ = some (.slice (some ⟨gw, 0, none⟩) ws.length c) := (hb.up hu2).cell 2
        have hq : k / 8 < ws.length := by have := HSW.out; omega
        generalize hD : X ++ (List.range k).map (wbyte ws) = D at *
        have HDL := Lib.hid (show D.length ≤ 400000 by rw [← hD]; have := HXL.out; simp; omega)
        have HD := Lib.hid hD
        clear hD
        obtain ⟨A8, c8, rfl, hr8⟩ := ho2.rd
        have HI := Lib.hid (InK.of_u8 (x := (Y : Int) / 2 ^ (8 * (k % 8)) % 256) (by omega) (by omega))
        have hlo2 := ho2.lt
        have hsz2 := hu2.size
        go_wp2_with (refine wpl_push_int (t := 76) w.heap.size 5 .u8 1 Try.underlying76 infoU8 _ D ((Y : Int) / 2 ^ (8 * (k % 8)) % 256) rfl HI.out (fun _ => rfl) (fun _ => rfl) ho2 (by have := HDL.out; omega) (by decide) (by omega) ?_; intro v7 w7 hv7 hu7)
        go_roundw
        case rel =>
          refine ⟨k + 1, by omega, by simp, ?_, hu2.thenx hu7 fun i hi e => by have := (hlo2 i e).1; omega⟩
          rw [List.range_succ, List.map_append, ← List.append_assoc, HD.out]
          have e : wbyte ws k = (Y : Int) / 2 ^ (8 * (k % 8)) % 256 := by
            unfold wbyte
            rw [HY2.out]
            simp [shr64]
          rw [List.map_singleton, e]
          exact hv7
        case measure => simp [intOf]; omega
      · have hke : k = S := by omega
        subst hke
        obtain ⟨A8, c8, rfl, hr8⟩ := ho2.rd
        go_wp2_with fail
        go_ret
        have e : pkBytes width n ws = X ++ (List.range k).map (wbyte ws) := by
          unfold pkBytes
          rw [← HX.out, HS.out]
          simp [vputs]
        rw [e]
        exact ⟨_, rfl, ho2, hu2⟩
  ·
    refine tree_do (fun K hK => ?_)
    go_wp2_with fail
    have hU1 : Up w (w.alloc (.cells #[.int .i64 n] 3)).drew := ((Up.refl _).alloc _).drew
    have hrN := (rd_one w .i64 3 (n : Int) hin).up ((Up.refl _).drew)
    have HS1 := Lib.hid (show (w.alloc (.cells #[.int .i64 n] 3)).drew.heap.size = w.heap.size + 1 by simp)
    refine ⟨hU1, ?_⟩
    generalize (w.alloc (.cells #[.int .i64 n] 3)).drew = w1 at *
    refine tree_alt (fun K hK => ?_) ?_
    ·
      go_wp2_with fail
      have hU2 : Up w1 (w1.alloc (.cells #[.int .u8 width] 5)) := (Up.refl _).alloc _
      have hoW : Own (w1.alloc (.cells #[.int .u8 width] 5)) w.heap.size 5 .u8 (.slice (some ⟨w1.heap.size, 0, none⟩) 1 1) [(width : Int)] := Own.lit w1 w.heap.size 5 .u8 [(width : Int)] (by have := HS1.out; omega) (by simp) (by simpa using hiw) 1 rfl _ rfl
      have hrN2 := hrN.up hU2
      refine ⟨hU1.trans hU2, ?_⟩
      generalize hw2 : (w1.alloc (.cells #[.int .u8 width] 5)) = w2 at *
      refine tree_do (fun K hK => ?_)
      go_wp2_with fail
      refine (varPut_calls (some ⟨w.heap.size, 0, none⟩) 1 [(n : Int)] w2 hrN2 (by simp)).mono ?_
      rintro e w3 ⟨v3, rfl, hv3, hu3⟩
      obtain ⟨B3, c3, rfl, hr3⟩ := hv3.rd
      have hl3 := HLV.out
      go_wp2_with fail
      have hUA := hU1.trans (hU2.trans hu3)
      have hoA := hoW.up hu3
      refine ⟨hUA, ?_⟩
      refine tree_do (fun K hK => ?_)
      go_wp2_with (refine wpl_append (t := 76) w.heap.size 5 .u8 1 Try.underlying76 infoU8 _ [(width : Int)] rfl hoA B3 _ c3 (vputs [(n : Int)]) rfl rfl hr3 (by simp; omega) (by decide) (by have := hUA.size; omega) ?_; intro v9 w9 hv9 hu9 _)
      have hloA := hoA.lt
      have hU9 : Up w w9 := hUA.thenx hu9 fun i hi e => by have := (hloA i e).1; omega
      refine ⟨hU9, ?_⟩
      dsimp only [Act.put]
      simp only [List.setIfInBounds_toArray, List.set_cons_zero, List.set_cons_succ]
      repeat (refine tree_step rfl (fun K hK => ?_); go_big_quiet_step ((intro _; rfl)); refine wpQuiet_nil (hK _ ?_); clear hK K)
      refine tree_nil ?_
      clear hloA
      go_wp2_with fail
      refine wp_region_pick (fun w' => Up w9 w') [(true, 0), (true, 1), (true, 2), (true, 3), (true, 4), (true, 5), (true, 6), (true, 7), (true, 9), (false, 8)] (by kernel_rfl) (by kernel_rfl) (by kernel_rfl) (by kernel_rfl) (by kernel_rfl) ((Up.refl w9).drew) ?_
      simp only [pick, List.map_cons, List.map_nil, List.getElem?_cons_succ, List.getElem?_cons_zero, Option.getD_some]
      repeat (refine pi_step rfl (fun K hK => ?_); go_big_quiet_step ((intro _; rfl)); refine wpQuiet_nil (hK _ ?_); clear hK K)
      refine pi_load ⟨g, 0, none⟩ (.int .i64 width) (by kernel_rfl) rfl (by kernel_rfl) (fun w' h => (hU9.trans h).cell g0) ?_
      dsimp only [Act.put]
      simp only [List.setIfInBounds_toArray, List.set_cons_zero, List.set_cons_succ]
      repeat (refine pi_step rfl (fun K hK => ?_); go_big_quiet_step ((intro _; rfl)); refine wpQuiet_nil (hK _ ?_); clear hK K)
      refine pi_load ⟨g, 1, none⟩ (.int .i64 n) (by kernel_rfl) rfl (by kernel_rfl) (fun w' h => (hU9.trans h).cell g1) ?_
      dsimp only [Act.put]
      simp only [List.setIfInBounds_toArray, List.set_cons_zero, List.set_cons_succ]
      repeat (refine pi_step rfl (fun K hK => ?_); go_big_quiet_step ((intro _; rfl)); refine wpQuiet_nil (hK _ ?_); clear hK K)
      refine pi_do (fun K hK => ?_)
      go_wp2_with fail
      refine (packedSize_calls width n _).mono ?_
      rw [HSZ.out]
      rintro e w' ⟨rfl, rfl⟩
      go_wp2_with fail
      refine ⟨(Up.refl w9).drew, ?_⟩
      refine pi_nil ?_
      have hUd := hU9.trans (Up.refl w9).drew
      have hvd := hv9.up (Up.refl w9).drew
      generalize w9.drew = wd at *
      generalize hX : [(width : Int)] ++ vputs [(n : Int)] = X at *
      have HXL := Lib.hid (show X.length ≤ 11 by rw [← hX]; have := HLV.out; simp; omega)
      have HX := Lib.hid hX
      clear hX hv9 hu9 hr3 hoA
      obtain ⟨A9, c9, rfl, hr9⟩ := hvd.rd
      go_wp2_with fail
      go_loopw [3, 4, 29] (fun o _ i wr => ∃ k : Nat, k ≤ S ∧ i = .int .i64 k ∧ Own wr w.heap.size 5 .u8 o (X ++ (List.range k).map (wbyte ws)) ∧ Up w wr) (fun _ _ i _ => S - (intOf i).toNat)
      case atStart => exact ⟨0, by omega, rfl, by simpa using hvd, hUd⟩
      case round =>
        obtain ⟨k, hk2, rfl, ho2, hu2⟩ := hrel
        by_cases hlt : k < S
        · obtain ⟨gw, c', he, _, hc, _, _⟩ := (ho.up hu2).store (k / 8) (by have := HSW.out; omega)
          simp only [Value.slice.injEq, true_and] at he
          obtain ⟨rfl, rfl⟩ := he
          have hx := ho.wf (ws.getD (k / 8) 0) (by have := HSW.out; rw [List.getD_eq_getElem?_getD, List.getElem?_eq_getElem (show k / 8 < ws.length by omega)]; exact List.getElem_mem _)
          obtain ⟨Y, HY⟩ := Int.eq_ofNat_of_zero_le hx.u64.1
          rw [HY] at hc
          have HYY : Hid (Y < 18446744073709551616) := Lib.hid (by have := hx.u64.2; omega)
          have HY2 := Lib.hid HY
          clear hx HY
          have gr2 : wr.cell? ⟨g, 2, none⟩ = some (.slice (some ⟨gw, 0, none⟩) ws.length c) := (hb.up hu2).cell 2
          have hq : k / 8 < ws.length := by have := HSW.out; omega
          generalize hD : X ++ (List.range k).map (wbyte ws) = D at *
          have HDL := Lib.hid (show D.length ≤ 400000 by rw [← hD]; have := HXL.out; simp; omega)
          have HD := Lib.hid hD
          clear hD
          obtain ⟨A8, c8, rfl, hr8⟩ := ho2.rd
          have HI := Lib.hid (InK.of_u8 (x := (Y : Int) / 2 ^ (8 * (k % 8)) % 256) (by omega) (by omega))
          have hlo2 := ho2.lt
          have hsz2 := hu2.size
          go_wp2_with (refine wpl_push_int (t := 76) w.heap.size 5 .u8 1 Try.underlying76 infoU8 _ D ((Y : Int) / 2 ^ (8 * (k % 8)) % 256) rfl HI.out (fun _ => rfl) (fun _ => rfl) ho2 (by have := HDL.out; omega) (by decide) (by omega) ?_; intro v7 w7 hv7 hu7)
          go_roundw
          case rel =>
            refine ⟨k + 1, by omega, by simp, ?_, hu2.thenx hu7 fun i hi e => by have := (hlo2 i e).1; omega⟩
            rw [List.range_succ, List.map_append, ← List.append_assoc, HD.out]
            have e : wbyte ws k = (Y : Int) / 2 ^ (8 * (k % 8)) % 256 := by
              unfold wbyte
              rw [HY2.out]
              simp [shr64]
            rw [List.map_singleton, e]
            exact hv7
          case measure => simp [intOf]; omega
        · have hke : k = S := by omega
          subst hke
          obtain ⟨A8, c8, rfl, hr8⟩ := ho2.rd
          go_wp2_with fail
          go_ret
          have e : pkBytes width n ws = X ++ (List.range k).map (wbyte ws) := by
            unfold pkBytes
            rw [← HX.out, HS.out]
            simp [vputs]
          rw [e]
          exact ⟨_, rfl, ho2, hu2⟩
    ·
      refine tree_do (fun K hK => ?_)
      go_wp2_with fail
      refine (varPut_calls (some ⟨w.heap.size, 0, none⟩) 1 [(n : Int)] w1 hrN (by simp)).mono ?_
      rintro e w30 ⟨v3, rfl, hv3, hu30⟩
      obtain ⟨B3, c3, rfl, hr30⟩ := hv3.rd
      have hl3 := HLV.out
      go_wp2_with fail
      refine ⟨hU1.trans hu30, ?_⟩
      refine tree_do (fun K hK => ?_)
      go_wp2_with fail
      have hU2 : Up w30 (w30.alloc (.cells #[.int .u8 width] 5)) := (Up.refl _).alloc _
      have hoA : Own (w30.alloc (.cells #[.int .u8 width] 5)) w.heap.size 5 .u8 (.slice (some ⟨w30.heap.size, 0, none⟩) 1 1) [(width : Int)] := Own.lit w30 w.heap.size 5 .u8 [(width : Int)] (by have := hu30.size; have := HS1.out; omega) (by simp) (by simpa using hiw) 1 rfl _ rfl
      have hUA := hU1.trans (hu30.trans hU2)
      have hr3 := hr30.up hU2
      refine ⟨hUA, ?_⟩
      generalize (w30.alloc (.cells #[.int .u8 width] 5)) = w3 at *
      refine tree_do (fun K hK => ?_)
      go_wp2_with (refine wpl_append (t := 76) w.heap.size 5 .u8 1 Try.underlying76 infoU8 _ [(width : Int)] rfl hoA B3 _ c3 (vputs [(n : Int)]) rfl rfl hr3 (by simp; omega) (by decide) (by have := hUA.size; omega) ?_; intro v9 w9 hv9 hu9 _)
      have hloA := hoA.lt
      have hU9 : Up w w9 := hUA.thenx hu9 fun i hi e => by have := (hloA i e).1; omega
      refine ⟨hU9, ?_⟩
      dsimp only [Act.put]
      simp only [List.setIfInBounds_toArray, List.set_cons_zero, List.set_cons_succ]
      repeat (refine tree_step rfl (fun K hK => ?_); go_big_quiet_step ((intro _; rfl)); refine wpQuiet_nil (hK _ ?_); clear hK K)
      refine tree_nil ?_
      clear hloA
      go_wp2_with fail
      refine wp_region_pick (fun w' => Up w9 w') [(true, 0), (true, 1), (true, 2), (true, 3), (true, 4), (true, 5), (true, 6), (true, 7), (true, 9), (false, 8)] (by kernel_rfl) (by kernel_rfl) (by kernel_rfl) (by kernel_rfl) (by kernel_rfl) ((Up.refl w9).drew) ?_
      simp only [pick, List.map_cons, List.map_nil, List.getElem?_cons_succ, List.getElem?_cons_zero, Option.getD_some]
      repeat (refine pi_step rfl (fun K hK => ?_); go_big_quiet_step ((intro _; rfl)); refine wpQuiet_nil (hK _ ?_); clear hK K)
      refine pi_load ⟨g, 0, none⟩ (.int .i64 width) (by kernel_rfl) rfl (by kernel_rfl) (fun w' h => (hU9.trans h).cell g0) ?_
      dsimp only [Act.put]
      simp only [List.setIfInBounds_toArray, List.set_cons_zero, List.set_cons_succ]
      repeat (refine pi_step rfl (fun K hK => ?_); go_big_quiet_step ((intro _; rfl)); refine wpQuiet_nil (hK _ ?_); clear hK K)
      refine pi_load ⟨g, 1, none⟩ (.int .i64 n) (by kernel_rfl) rfl (by kernel_rfl) (fun w' h => (hU9.trans h).cell g1) ?_
      dsimp only [Act.put]
      simp only [List.setIfInBounds_toArray, List.set_cons_zero, List.set_cons_succ]
      repeat (refine pi_step rfl (fun K hK => ?_); go_big_quiet_step ((intro _; rfl)); refine wpQuiet_nil (hK _ ?_); clear hK K)
      refine pi_do (fun K hK => ?_)
      go_wp2_with fail
      refine (packedSize_calls width n _).mono ?_
      rw [HSZ.out]
      rintro e w' ⟨rfl, rfl⟩
      go_wp2_with fail
      refine ⟨(Up.refl w9).drew, ?_⟩
      refine pi_nil ?_
      have hUd := hU9.trans (Up.refl w9).drew
      have hvd := hv9.up (Up.refl w9).drew
      generalize w9.drew = wd at *
      generalize hX : [(width : Int)] ++ vputs [(n : Int)] = X at *
      have HXL := Lib.hid (show X.length ≤ 11 by rw [← hX]; have := HLV.out; simp; omega)
      have HX := Lib.hid hX
      clear hX hv9 hu9 hr3 hoA
      obtain ⟨A9, c9, rfl, hr9⟩ := hvd.rd
      go_wp2_with fail
      go_loopw [3, 4, 29] (fun o _ i wr => ∃ k : Nat, k ≤ S ∧ i = .int .i64 k ∧ Own wr w.heap.size 5 .u8 o (X ++ (List.range k).map (wbyte ws)) ∧ Up w wr) (fun _ _ i _ => S - (intOf i).toNat)
      case atStart => exact ⟨0, by omega, rfl, by simpa using hvd, hUd⟩
      case round =>
        obtain ⟨k, hk2, rfl, ho2, hu2⟩ := hrel
        by_cases hlt : k < S
        · obtain ⟨gw, c', he, _, hc, _, _⟩ := (ho.up hu2).store (k / 8) (by have := HSW.out; omega)
          simp only [Value.slice.injEq, true_and] at he
          obtain ⟨rfl, rfl⟩ := he
          have hx := ho.wf (ws.getD (k / 8) 0) (by have := HSW.out; rw [List.getD_eq_getElem?_getD, List.getElem?_eq_getElem (show k / 8 < ws.length by omega)]; exact List.getElem_mem _)
          obtain ⟨Y, HY⟩ := Int.eq_ofNat_of_zero_le hx.u64.1
          rw [HY] at hc
          have HYY : Hid (Y < 18446744073709551616) := Lib.hid (by have := hx.u64.2; omega)
          have HY2 := Lib.hid HY
          clear hx HY
          have gr2 : wr.cell? ⟨g, 2, none⟩ = some (.slice (some ⟨gw, 0, none⟩) ws.length c) := (hb.up hu2).cell 2
          have hq : k / 8 < ws.length := by have := HSW.out; omega
          generalize hD : X ++ (List.range k).map (wbyte ws) = D at *
          have HDL := Lib.hid (show D.length ≤ 400000 by rw [← hD]; have := HXL.out; simp; omega)
          have HD := Lib.hid hD
          clear hD
          obtain ⟨A8, c8, rfl, hr8⟩ := ho2.rd
          have HI := Lib.hid (InK.of_u8 (x := (Y : Int) / 2 ^ (8 * (k % 8)) % 256) (by omega) (by omega))
          have hlo2 := ho2.lt
          have hsz2 := hu2.size
          go_wp2_with (refine wpl_push_int (t := 76) w.heap.size 5 .u8 1 Try.underlying76 infoU8 _ D ((Y : Int) / 2 ^ (8 * (k % 8)) % 256) rfl HI.out (fun _ => rfl) (fun _ => rfl) ho2 (by have := HDL.out; omega) (by decide) (by omega) ?_; intro v7 w7 hv7 hu7)
          go_roundw
          case rel =>
            refine ⟨k + 1, by omega, by simp, ?_, hu2.thenx hu7 fun i hi e => by have := (hlo2 i e).1; omega⟩
            rw [List.range_succ, List.map_append, ← List.append_assoc, HD.out]
            have e : wbyte ws k = (Y : Int) / 2 ^ (8 * (k % 8)) % 256 := by
              unfold wbyte
              rw [HY2.out]
              simp [shr64]
            rw [List.map_singleton, e]
            exact hv7
          case measure => simp [intOf]; omega
        · have hke : k = S := by omega
          subst hke
          obtain ⟨A8, c8, rfl, hr8⟩ := ho2.rd
          go_wp2_with fail
          go_ret
          have e : pkBytes width n ws = X ++ (List.range k).map (wbyte ws) := by
            unfold pkBytes
            rw [← HX.out, HS.out]
            simp [vputs]
          rw [e]
          exact ⟨_, rfl, ho2, hu2⟩
end Go.Proofs.Ytneliajeokajbaa
