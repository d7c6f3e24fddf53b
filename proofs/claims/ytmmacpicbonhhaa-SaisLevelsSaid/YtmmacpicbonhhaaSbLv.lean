/- The law SaisLevels returns true of any numbers. -/
import Derived.Test.YtmmacpicbonhhaaSbN
namespace Go.Proofs.Ytmmacpicbonhhaa.SalPure
open Go.RowKit Go.Proofs.Ytmmacpicbonhhaa
set_option maxRecDepth 100000
set_option linter.unusedVariables false

theorem lv_uniq {x : List Int} {d e : Nat} (h1 : ∀ k, k < d → more (lv x k) = true) (h2 : more (lv x d) = false) (h3 : ∀ k, k < e → more (lv x k) = true) (h4 : more (lv x e) = false) : e = d := by
  rcases Nat.lt_trichotomy d e with h | h | h
  · rw [h3 d h] at h2; cases h2
  · exact h.symm
  · rw [h1 e h] at h4; cases h4
theorem lv_deep {x : List Int} : ∀ d, (∀ k, k < d → more (lv x k) = true) → dpN (lv x d).length + d ≤ dpN x.length
  | 0, _ => Nat.le_refl _
  | d + 1, h => by
    have h1 := lv_deep d fun k hk => h k (by omega)
    have h2 := h d (by omega)
    unfold more at h2
    simp at h2
    have hh := red_half (lv x d)
    show dpN (red (lv x d)).length + (d + 1) ≤ _
    rw [dpN_pos (lv x d).length (by omega)] at h1
    have := dpN_mono _ (red (lv x d)).length ((lv x d).length / 2) (Nat.le_refl _) (by omega)
    omega

set_option maxHeartbeats 4000000 in
theorem lawSaisLevels_calls (A : Option Addr) (c : Nat) (l : List Int) (a0 a1 : Int) (w : World) (h : Rd w .i64 A c l) (ha0 : InK .i64 a0) (ha1 : InK .i64 a1) :
    Calls Try.prog 5 #[.slice A l.length c, .int .i64 a0, .int .i64 a1] w fun e w' => e = .returned (.bool true) ∧ Up w w' := by
  obtain ⟨x, hx, hxl, HT⟩ := c_text l a0
  go_enter Try.func5, Try.ntmps5
  go_wp2_with fail
  refine (HT A c w h ha0).mono ?_
  rintro en w1 ⟨v1, rfl, hv1, hu1⟩
  obtain ⟨A1, c1, rfl, hr1⟩ := hv1.rd
  clear HT h
  go_wp2_with fail
  refine (levels_calls hx (by omega) A1 c1 w1 hr1).mono ?_
  rintro en w2 ⟨v2, d, rfl, hv2, hu2, hm2, hmo2⟩
  obtain ⟨A2, c2, rfl, hr2⟩ := hv2.rd
  have hv12 := hv1.up hu2
  clear hr1 hv1 hv2
  rw [lvs_len]
  go_wp2_with fail
  refine (refLevels_calls hx (by omega) A1 c1 _ w2 hv12).mono ?_
  rintro en w3 ⟨v3, d3, rfl, hv3, hu3, hm3, hmo3⟩
  rw [lv_uniq hm2 hmo2 hm3 hmo3] at hv3
  obtain ⟨A3, c3, rfl, hr3⟩ := hv3.rd
  have hr23 := hr2.up hu3
  have hU3 := (hu1.trans hu2).trans hu3
  have hdp := lv_deep d hm2
  have hdl := lv_down d hm2
  have hpos : 0 < (lv x d).length := (lv_txt hx (by omega) d hm2).pos
  have hdp1 : d + 1 ≤ dpN x.length := by rw [dpN_pos _ hpos] at hdp; omega
  have hdpl := dpN_le x.length x.length (Nat.le_refl _)
  have hdb : d ≤ 200 := by omega
  have HLT := Lib.hid fun k (hk : k ≤ d) => lv_txt hx (by omega) k fun i hi => hm2 i (by omega)
  have HSD := Lib.hid (saDeepest_calls (x.length : Int) w3 (InK.of_i64 (by omega) (by omega)))
  rw [Int.toNat_natCast] at HSD
  clear hv3 hv12 hr2 hm2 hmo2 hm3 hmo3 hdp hdl hpos hu1 hu2 hu3
  rw [lvs_len]
  generalize dpN x.length = dp at *
  have hb1 : decide (((d + 1 : Nat) : Int) > (dp : Int)) = false := decide_eq_false (by omega)
  go_wp2_with fail
  refine (HSD.out).mono ?_
  rintro en w4 ⟨rfl, rfl⟩
  clear HSD
  go_wp2_with fail
  go_loopw [6, 11] (fun _ i wr => ∃ k : Nat, k ≤ d + 1 ∧ i = .int .i64 k ∧ Up w4 wr) (fun _ i _ => d + 1 - (intOf i).toNat)
  case atStart => exact ⟨0, Nat.zero_le _, rfl, Up.refl _⟩
  case round =>
    obtain ⟨k, hk, rfl, hq⟩ := hrel
    by_cases hlt : k < d + 1
    · have hT := HLT.out k (by omega)
      have hle := lv_len x k
      obtain ⟨ad2, t, At, ct, rfl, hct, hrt, HTt⟩ := hr23.get k (by rw [lvs_len]; exact hlt)
      have ht := HTt.out
      rw [lvs_get _ _ _ (by omega)] at ht
      obtain ⟨ad3, t', At', ct', rfl, hct', hrt', HTt'⟩ := hr3.get k (by rw [lvs_len]; exact hlt)
      have ht' := HTt'.out
      rw [lvs_get _ _ _ (by omega), ht] at ht'
      subst ht'
      rw [ht] at hT hle
      have hcq := hq.cell hct
      have hcq' := hq.cell hct'
      have hrq := hrt.up hq
      have hrq' := hrt'.up hq
      clear hct hct' hrt hrt' HTt HTt'
      cases k with
      | zero =>
        clear ht
        go_wp2_with fail
        refine wp_region_tree (fun w' => Up wr w') (.quiet 0 (.quiet 1 (.quiet 2 (.quiet 3 (.quiet 4 (.quiet 5 (.quiet 6 (.quiet 7 (.alt 8 (.quiet 9 (.quiet 10 (.quiet 11 (.quiet 12 (.quiet 13 (.quiet 14 (.quiet 16 (.quiet 17 (.quiet 18 (.quiet 19 (.alt 15 (.alt 20 (.quiet 21 (.quiet 22 (.quiet 23 (.quiet 24 (.quiet 25 (.quiet 26 (.quiet 27 (.quiet 28 (.quiet 29 (.quiet 30 (.quiet 31 (.quiet 32 (.quiet 33 (.quiet 34 (.quiet 35 (.quiet 36 (.quiet 37 (.quiet 38 (.quiet 39 (.quiet 40 (.quiet 41 (.nil)))))))))))))))))))))) (.stop)) (.stop)))))))))))) (.stop)))))))))) (by kernel_rfl) (by kernel_rfl) rfl (by kernel_rfl) (by kernel_rfl) ((Up.refl wr).drew) ?_
        simp only [pickT, List.getElem?_cons_succ, List.getElem?_cons_zero, Option.getD_some]
        repeat (refine tree_step rfl (fun K hK => ?_); go_big_quiet_step ((intro _; rfl)); refine wpQuiet_nil (hK _ ?_); clear hK K)
        refine tree_load (ad2.add 0) (.slice At t.length ct) (by kernel_rfl) rfl (by kernel_rfl) (fun w' h => h.cell hcq) ?_
        dsimp only [Act.put]
        simp only [List.setIfInBounds_toArray, List.set_cons_zero, List.set_cons_succ]
        repeat (refine tree_step rfl (fun K hK => ?_); go_big_quiet_step ((intro _; rfl)); refine wpQuiet_nil (hK _ ?_); clear hK K)
        refine tree_load (ad3.add 0) (.slice At' t.length ct') (by kernel_rfl) rfl (by kernel_rfl) (fun w' h => h.cell hcq') ?_
        dsimp only [Act.put]
        simp only [List.setIfInBounds_toArray, List.set_cons_zero, List.set_cons_succ]
        refine tree_do (fun K hK => ?_)
        go_wp2_with fail
        have hd5 : Up wr wr.drew := (Up.refl wr).drew
        refine (c_same t t (by omega) At ct At' ct' wr.drew (hrq.up hd5) (hrq'.up hd5)).mono ?_
        rintro en w5 ⟨rfl, q5, rfl⟩
        rw [decide_eq_true (show t = t from rfl)]
        have hd6 := hd5.drewN q5
        generalize wr.drew.drewN q5 = w6 at *
        go_wp2_with fail
        refine ⟨hd6, ?_⟩
        repeat (refine tree_step rfl (fun K hK => ?_); go_big_quiet_step ((intro _; rfl)); refine wpQuiet_nil (hK _ ?_); clear hK K)
        refine tree_load (ad2.add 0) (.slice At t.length ct) (by kernel_rfl) rfl (by kernel_rfl) (fun w' h => h.cell hcq) ?_
        dsimp only [Act.put]
        simp only [List.setIfInBounds_toArray, List.set_cons_zero, List.set_cons_succ]
        repeat (refine tree_step rfl (fun K hK => ?_); go_big_quiet_step ((intro _; rfl)); refine wpQuiet_nil (hK _ ?_); clear hK K)
        refine tree_load (ad3.add 0) (.slice At' t.length ct') (by kernel_rfl) rfl (by kernel_rfl) (fun w' h => h.cell hcq') ?_
        dsimp only [Act.put]
        simp only [List.setIfInBounds_toArray, List.set_cons_zero, List.set_cons_succ]
        refine tree_do (fun K hK => ?_)
        go_wp2_with fail
        have HUN := Lib.hid (unlike_calls At ct t w6 (hrq.up hd6) (by omega))
        have HRU := fun w' hu => Lib.hid (refUnlike_calls At' ct' t w' (hrq'.up hu) (by omega))
        generalize decide t.Nodup = un at *
        refine (HUN.out).mono ?_
        rintro en w7 ⟨rfl, hu7⟩
        have hd7 := hd6.trans hu7
        clear HUN hu7
        go_wp2_with fail
        refine ⟨hd7, ?_⟩
        refine tree_do (fun K hK => ?_)
        go_wp2_with fail
        refine ((HRU w7 hd7).out).mono ?_
        rintro en w8 ⟨rfl, q8, rfl⟩
        have hd8 := hd7.drewN q8
        generalize w7.drewN q8 = w8 at *
        go_wp2_with fail
        refine ⟨hd8, ?_⟩
        repeat (refine tree_step rfl (fun K hK => ?_); go_big_quiet_step ((intro _; rfl)); refine wpQuiet_nil (hK _ ?_); clear hK K)
        refine tree_nil ?_
        cases un <;>
        · go_wp2_with fail
          refine ⟨⟨1, by omega, rfl, hq.trans hd8⟩, ?_⟩
          simp [intOf]
      | succ m =>
        obtain ⟨ad4, t4, At4, ct4, e4, hct4, _, HT4⟩ := hr23.get m (by rw [lvs_len]; omega)
        cases e4
        have ht4 := HT4.out
        rw [lvs_get _ _ _ (by omega)] at ht4
        have hh := red_half (lv x m)
        rw [show red (lv x m) = t from ht, ht4] at hh
        have hle4 := lv_len x m
        rw [ht4] at hle4
        have hcq4 := hq.cell hct4
        clear ht HT4 ht4 hct4
        go_wp2_with fail
        refine wp_region_tree (fun w' => Up wr w') (.quiet 0 (.quiet 1 (.quiet 2 (.quiet 3 (.quiet 4 (.quiet 5 (.quiet 6 (.quiet 7 (.alt 8 (.quiet 9 (.quiet 10 (.quiet 11 (.quiet 12 (.quiet 13 (.quiet 14 (.quiet 16 (.quiet 17 (.quiet 18 (.quiet 19 (.alt 15 (.alt 20 (.quiet 21 (.quiet 22 (.quiet 23 (.quiet 24 (.quiet 25 (.quiet 26 (.quiet 27 (.quiet 28 (.quiet 29 (.quiet 30 (.quiet 31 (.quiet 32 (.quiet 33 (.quiet 34 (.quiet 35 (.quiet 36 (.quiet 37 (.quiet 38 (.quiet 39 (.quiet 40 (.quiet 41 (.nil)))))))))))))))))))))) (.stop)) (.stop)))))))))))) (.stop)))))))))) (by kernel_rfl) (by kernel_rfl) rfl (by kernel_rfl) (by kernel_rfl) ((Up.refl wr).drew) ?_
        simp only [pickT, List.getElem?_cons_succ, List.getElem?_cons_zero, Option.getD_some]
        repeat (refine tree_step rfl (fun K hK => ?_); go_big_quiet_step ((intro _; rfl)); refine wpQuiet_nil (hK _ ?_); clear hK K)
        refine tree_load (ad2.add (m + 1)) (.slice At t.length ct) (by kernel_rfl) rfl (by kernel_rfl) (fun w' h => h.cell hcq) ?_
        dsimp only [Act.put]
        simp only [List.setIfInBounds_toArray, List.set_cons_zero, List.set_cons_succ]
        repeat (refine tree_step rfl (fun K hK => ?_); go_big_quiet_step ((intro _; rfl)); refine wpQuiet_nil (hK _ ?_); clear hK K)
        refine tree_load (ad3.add (m + 1)) (.slice At' t.length ct') (by kernel_rfl) rfl (by kernel_rfl) (fun w' h => h.cell hcq') ?_
        dsimp only [Act.put]
        simp only [List.setIfInBounds_toArray, List.set_cons_zero, List.set_cons_succ]
        refine tree_do (fun K hK => ?_)
        go_wp2_with fail
        have hd5 : Up wr wr.drew := (Up.refl wr).drew
        refine (c_same t t (by omega) At ct At' ct' wr.drew (hrq.up hd5) (hrq'.up hd5)).mono ?_
        rintro en w5 ⟨rfl, q5, rfl⟩
        rw [decide_eq_true (show t = t from rfl)]
        have hd6 := hd5.drewN q5
        generalize wr.drew.drewN q5 = w6 at *
        go_wp2_with fail
        refine ⟨hd6, ?_⟩
        repeat (refine tree_step rfl (fun K hK => ?_); go_big_quiet_step ((intro _; rfl)); refine wpQuiet_nil (hK _ ?_); clear hK K)
        refine tree_load (ad2.add (m + 1)) (.slice At t.length ct) (by kernel_rfl) rfl (by kernel_rfl) (fun w' h => h.cell hcq) ?_
        dsimp only [Act.put]
        simp only [List.setIfInBounds_toArray, List.set_cons_zero, List.set_cons_succ]
        repeat (refine tree_step rfl (fun K hK => ?_); go_big_quiet_step ((intro _; rfl)); refine wpQuiet_nil (hK _ ?_); clear hK K)
        refine tree_load (ad3.add (m + 1)) (.slice At' t.length ct') (by kernel_rfl) rfl (by kernel_rfl) (fun w' h => h.cell hcq') ?_
        dsimp only [Act.put]
        simp only [List.setIfInBounds_toArray, List.set_cons_zero, List.set_cons_succ]
        refine tree_do (fun K hK => ?_)
        go_wp2_with fail
        have HUN := Lib.hid (unlike_calls At ct t w6 (hrq.up hd6) (by omega))
        have HRU := fun w' hu => Lib.hid (refUnlike_calls At' ct' t w' (hrq'.up hu) (by omega))
        generalize decide t.Nodup = un at *
        refine (HUN.out).mono ?_
        rintro en w7 ⟨rfl, hu7⟩
        have hd7 := hd6.trans hu7
        clear HUN hu7
        go_wp2_with fail
        refine ⟨hd7, ?_⟩
        refine tree_do (fun K hK => ?_)
        go_wp2_with fail
        refine ((HRU w7 hd7).out).mono ?_
        rintro en w8 ⟨rfl, q8, rfl⟩
        have hd8 := hd7.drewN q8
        generalize w7.drewN q8 = w8 at *
        go_wp2_with fail
        refine ⟨hd8, ?_⟩
        repeat (refine tree_step rfl (fun K hK => ?_); go_big_quiet_step ((intro _; rfl)); refine wpQuiet_nil (hK _ ?_); clear hK K)
        refine tree_load (ad2.add (m + 1)) (.slice At t.length ct) (by kernel_rfl) rfl (by kernel_rfl) (fun w' h => h.cell hcq) ?_
        dsimp only [Act.put]
        simp only [List.setIfInBounds_toArray, List.set_cons_zero, List.set_cons_succ]
        repeat (refine tree_step rfl (fun K hK => ?_); go_big_quiet_step ((intro _; rfl)); refine wpQuiet_nil (hK _ ?_); clear hK K)
        refine tree_load (ad2.add m) (.slice At4 t4.length ct4) (by kernel_rfl) rfl (by kernel_rfl) (fun w' h => h.cell hcq4) ?_
        dsimp only [Act.put]
        simp only [List.setIfInBounds_toArray, List.set_cons_zero, List.set_cons_succ]
        repeat (refine tree_step rfl (fun K hK => ?_); go_big_quiet_step ((intro _; rfl)); refine wpQuiet_nil (hK _ ?_); clear hK K)
        refine tree_nil ?_
        cases un <;>
        · go_wp2_with fail
          refine ⟨⟨m + 1 + 1, by omega, by simp, hq.trans hd8⟩, ?_⟩
          simp [intOf]; omega
    · have hke : k = d + 1 := by omega
      subst hke
      have HU := Lib.hid (hU3.trans hq)
      have HS := fun w' => Lib.hid (saDeepest_calls a1 w' ha1)
      have HR := fun w' => Lib.hid (refDeepest_calls a1.toNat a1 w' (Nat.le_refl _) ha1)
      generalize dpN a1.toNat = da at *
      clear hr3 hr23 hU3 hq HLT
      go_wp2_with fail
      refine (known17_calls wr).mono ?_
      rintro en w5 ⟨rfl, hu5⟩
      have HU5 := Lib.hid (HU.out.trans hu5)
      clear HU hu5
      go_wp2_with fail
      refine ((HS w5).out).mono ?_
      rintro en w6 ⟨rfl, rfl⟩
      go_wp2_with fail
      refine ((HR w6).out).mono ?_
      rintro en w7 ⟨rfl, rfl⟩
      go_wp2_with fail
      go_ret
      exact ⟨rfl, HU5.out⟩
end Go.Proofs.Ytmmacpicbonhhaa.SalPure
namespace Go.Proofs.Ytmmacpicbonhhaa
open Go.RowKit
theorem lawSaisLevels_calls (A : Option Addr) (c : Nat) (l : List Int) (a0 a1 : Int) (w : World) (h : Rd w .i64 A c l) (ha0 : InK .i64 a0) (ha1 : InK .i64 a1) :
    Calls Try.prog 5 #[.slice A l.length c, .int .i64 a0, .int .i64 a1] w fun e w' => e = .returned (.bool true) ∧ Up w w' := SalPure.lawSaisLevels_calls A c l a0 a1 w h ha0 ha1
end Go.Proofs.Ytmmacpicbonhhaa
