/- Layer 14: right, Parse and Bytes: the walks. -/
import Derived.Test.YtneliajeokajbaaAlphaBack
namespace Go.Proofs.Ytneliajeokajbaa
open Go.RowKit
set_option maxRecDepth 100000

set_option maxHeartbeats 4000000 in
theorem alphaRight_calls (A B : Option Addr) (c d : Nat) (sy ct : List Int) (w : World) (h1 : Rd w .i64 A c sy) (h2 : Rd w .i64 B d ct) (hl : sy.length ≤ 65536) :
    Calls Try.prog 98 #[.slice A sy.length c, .slice B ct.length d] w fun e w' => e = .returned (.bool (rightB sy ct)) ∧ w = w' := by
  have hl2 := h2.len
  generalize hR : rightB sy ct = R
  have HR := Lib.hid hR
  clear hR
  by_cases hlen : sy.length = ct.length
  · have HLN := Lib.hid hlen
    have HR2 : Hid (R = okTo sy ct sy.length) := Lib.hid (by rw [← HR.out]; unfold rightB; simp [hlen])
    have b1 : ((sy.length : Int) != (ct.length : Int)) = false := by simp [hlen]
    have b2 : (sy.length != ct.length) = false := by simp [hlen]
    clear hlen HR
    go_enter Try.func98, Try.ntmps98
    go_wp2_with fail
    go_loop [5, 6, 7, 15] (fun n _ _ i => ∃ (k : Nat) (m : Int), k ≤ sy.length ∧ i = .int .i64 k ∧ n = .int .i64 m ∧ Hid (m = (ct.take k).sum) ∧ Hid (okTo sy ct k = true)) (fun _ _ _ i => sy.length - (intOf i).toNat)
    case atStart => exact ⟨0, 0, by omega, rfl, rfl, Lib.hid (by simp), Lib.hid rfl⟩
    case round =>
      obtain ⟨k, m, hk, rfl, rfl, HM, HO⟩ := hrel
      by_cases hlt : k < sy.length
      · obtain ⟨ad, x, rfl, hc, HX, _⟩ := h1.get k hlt
        obtain ⟨ad2, y, rfl, hc2, HY, hyr⟩ := h2.get k (by rw [← HLN.out]; exact hlt)
        have hltc : k < ct.length := by rw [← HLN.out]; exact hlt
        have HS := Lib.hid (okTo_sum HO.out (by omega))
        have hm1 : m ≤ 65536 := by rw [HM.out]; exact HS.out.1
        have hm0 : 0 ≤ m := by rw [HM.out]; exact HS.out.2
        have HN := Lib.hid (show okTo sy ct (k + 1) = okAt sy ct k by rw [okTo_succ, HO.out, Bool.true_and])
        have HA := Lib.hid (show okAt sy ct k = (decide (x < 258) && (decide (k = 0) || decide (sy.getD (k - 1) 0 < x)) && decide (1 ≤ y) && decide (y ≤ 65536 - m)) by unfold okAt; rw [HX.out, HY.out, HM.out])
        have HF : Hid (okAt sy ct k = false → R = false) := Lib.hid (fun h => by rw [HR2.out]; exact okTo_false (HN.out.trans h) (by omega))
        have hyb := hyr.i64
        by_cases hx : x < 258
        · have key : (decide (0 < k) = false ∧ Hid (k = 0)) ∨ (decide (0 < k) = true ∧ 0 < k ∧ ((k : Int) - 1).toNat = k - 1 ∧ k - 1 < sy.length ∧ ∃ z, w.cell? (ad.add (k - 1)) = some (.int .i64 z) ∧ Hid (sy.getD (k - 1) 0 = z ∧ ¬ k = 0)) := by
            by_cases h0 : k = 0
            · exact .inl ⟨by simp; omega, h0⟩
            · obtain ⟨_, z, e0, hz, HZ, _⟩ := h1.get (k - 1) (by omega)
              obtain rfl := Option.some.inj e0
              exact .inr ⟨by simp; omega, by omega, by omega, by omega, z, hz, Lib.hid ⟨HZ.out, h0⟩⟩
          have tailbad : Hid (okAt sy ct k = false → Calls Try.prog 98 #[.slice none 0 0, .slice none 0 0] w (fun _ _ => True) ∨ R = false) := Lib.hid fun h => .inr (HF.out h)
          clear tailbad
          rcases key with ⟨hk0, HK0⟩ | ⟨hk0, hk1, hk2, hk3, z, hz, HZ⟩
          · by_cases hy : 1 ≤ y
            · by_cases hy2 : y ≤ 65536 - m
              · have HO2 : Hid (okTo sy ct (k + 1) = true) := Lib.hid (by rw [HN.out, HA.out, HK0.out]; simp [hx, hy, hy2])
                have HS2 := Lib.hid (show m + y = (ct.take (k + 1)).sum by rw [take_succ_getD ct k 0 hltc, HY.out, List.sum_append, HM.out]; simp)
                go_wp2_with fail
                go_round
                case rel => exact ⟨k + 1, m + y, by omega, by simp, rfl, HS2, HO2⟩
                case measure => simp [intOf]; omega
              · have HB := HF.out (by rw [HA.out]; simp [hy2])
                have HBB := Lib.hid HB
                clear HB
                go_wp2_with fail
                go_ret
                exact ⟨by rw [HBB.out]; rfl, rfl⟩
            · have HBB := Lib.hid (HF.out (by rw [HA.out]; simp [hy]))
              go_wp2_with fail
              go_ret
              exact ⟨by rw [HBB.out]; rfl, rfl⟩
          · by_cases hzx : z < x
            · by_cases hy : 1 ≤ y
              · by_cases hy2 : y ≤ 65536 - m
                · have HO2 : Hid (okTo sy ct (k + 1) = true) := Lib.hid (by rw [HN.out, HA.out, HZ.out.1]; simp [hx, hy, hy2, hzx])
                  have HS2 := Lib.hid (show m + y = (ct.take (k + 1)).sum by rw [take_succ_getD ct k 0 hltc, HY.out, List.sum_append, HM.out]; simp)
                  go_wp2_with fail
                  go_round
                  case rel => exact ⟨k + 1, m + y, by omega, by simp, rfl, HS2, HO2⟩
                  case measure => simp [intOf]; omega
                · have HBB := Lib.hid (HF.out (by rw [HA.out]; simp [hy2]))
                  go_wp2_with fail
                  go_ret
                  exact ⟨by rw [HBB.out]; rfl, rfl⟩
              · have HBB := Lib.hid (HF.out (by rw [HA.out]; simp [hy]))
                go_wp2_with fail
                go_ret
                exact ⟨by rw [HBB.out]; rfl, rfl⟩
            · have HBB := Lib.hid (HF.out (by rw [HA.out, HZ.out.1]; simp [hzx, HZ.out.2]))
              have hzx2 : x ≤ z := by omega
              go_wp2_with fail
              go_ret
              exact ⟨by rw [HBB.out]; rfl, rfl⟩
        · have HBB := Lib.hid (HF.out (by rw [HA.out]; simp [hx]))
          have hx2 : 258 ≤ x := by omega
          go_wp2_with fail
          go_ret
          exact ⟨by rw [HBB.out]; rfl, rfl⟩
      · have hke : k = sy.length := by omega
        subst hke
        have HE := Lib.hid (HR2.out.trans HO.out)
        go_wp2_with fail
        go_ret
        exact ⟨by rw [HE.out]; rfl, rfl⟩
  · have HBB : Hid (R = false) := Lib.hid (by rw [← HR.out]; unfold rightB; simp [hlen])
    have b1 : ((sy.length : Int) != (ct.length : Int)) = true := by simp; omega
    clear hlen
    go_enter Try.func98, Try.ntmps98
    go_wp2_with fail
    go_ret
    exact ⟨by rw [HBB.out]; rfl, rfl⟩

/-- What Parse tells of bytes. -/
structure ParsePost (w : World) (b : List Int) (en : Ending) (w' : World) : Prop where mk ::
  up : Up w w'
  out : ((glist b).2.2 ≠ 0 ∧ en = .returned (.tuple #[.pointer none, .slice none 0 0, .int .i64 (glist b).2.2])) ∨
    ((glist b).2.2 = 0 ∧ (glist (glist b).2.1).2.2 ≠ 0 ∧ en = .returned (.tuple #[.pointer none, .slice none 0 0, .int .i64 (glist (glist b).2.1).2.2])) ∨
    ((glist b).2.2 = 0 ∧ (glist (glist b).2.1).2.2 = 0 ∧ rightB (glist b).1 (glist (glist b).2.1).1 = false ∧ en = .returned (.tuple #[.pointer none, .slice none 0 0, .int .i64 3])) ∨
    ((glist b).2.2 = 0 ∧ (glist (glist b).2.1).2.2 = 0 ∧ rightB (glist b).1 (glist (glist b).2.1).1 = true ∧ ∃ pg B d, en = .returned (.tuple #[.pointer (some ⟨pg, 0, none⟩), .slice B (glist (glist b).2.1).2.1.length d, .int .i64 0]) ∧
      Tab w' (.pointer (some ⟨pg, 0, none⟩)) (glist b).1 (glist (glist b).2.1).1 (sums (glist (glist b).2.1).1) ∧ Rd w' .u8 B d (glist (glist b).2.1).2.1)

set_option maxHeartbeats 4000000 in
theorem alphaParse_calls (A : Option Addr) (c : Nat) (b : List Int) (w : World) (h1 : Rd w .u8 A c b) (hb : b.length ≤ 140737488355000) :
    Calls Try.prog 72 #[.slice A b.length c] w (ParsePost w b) := by
  generalize hG : glist b = G
  have HG := Lib.hid hG
  obtain ⟨sy, r1, f1⟩ := G
  have HB1 : Hid (f1 = 0 → b = vlist sy ++ r1 ∧ (∀ x ∈ sy, 0 ≤ x ∧ x ≤ 9223372036854775807) ∧ sy.length ≤ 65536) := Lib.hid (fun h => glist_back h1.wf (by rw [hG, h]))
  clear hG
  generalize hG2 : glist r1 = G2
  have HG2 := Lib.hid hG2
  obtain ⟨ct, r2, f2⟩ := G2
  clear hG2
  go_enter Try.func72, Try.ntmps72
  go_wp2_with fail
  refine (varGetList_calls A c b w h1 (by omega)).mono ?_
  rintro e w1 hp
  obtain ⟨v1, v2, rfl, hv1, hv2, hu1⟩ := hp.out
  rw [HG.out] at hv1 hv2 ⊢
  simp only at hv1 hv2 ⊢
  clear hp
  obtain ⟨B1, c1, rfl, hr1⟩ := hv1.rd
  obtain ⟨B2, c2, rfl, hr2⟩ := hv2.rd
  by_cases hf1 : f1 = 0
  · subst hf1
    have HB2 := Lib.hid (HB1.out rfl)
    have HRL : Hid (r1.length ≤ 140737488355000) := Lib.hid (by have := congrArg List.length HB2.out.1; rw [List.length_append] at this; omega)
    have HWF := Lib.hid hr2.wf
    go_wp2_with fail
    refine (varGetList_calls B2 c2 r1 w1 hr2 (by have := HRL.out; omega)).mono ?_
    rintro e w2 hp
    obtain ⟨v3, v4, rfl, hv3, hv4, hu2⟩ := hp.out
    rw [HG2.out] at hv3 hv4 ⊢
    simp only at hv3 hv4 ⊢
    clear hp
    obtain ⟨B3, c3, rfl, hr3⟩ := hv3.rd
    obtain ⟨B4, c4, rfl, hr4⟩ := hv4.rd
    have hU2 := hu1.trans hu2
    by_cases hf2 : f2 = 0
    · subst hf2
      have HB3 := Lib.hid (glist_back HWF.out (HG2.out))
      go_wp2_with fail
      refine (alphaRight_calls B1 B3 c1 c3 sy ct w2 (hr1.up hu2) hr3 HB2.out.2.2).mono ?_
      rintro e w3 ⟨rfl, rfl⟩
      cases hR : rightB sy ct with
      | true =>
        have HR := Lib.hid hR
        clear hR
        have HS := Lib.hid (rightB_spec HR.out)
        go_wp2_with fail
        refine (alphaMade_calls B1 B3 c1 c3 sy ct w2 (hr1.up hu2) hr3 HS.out.2.1 HS.out.2.2 (by rw [← HS.out.1]; exact HB2.out.2.2)).mono ?_
        rintro e w3 ⟨p, rfl, hT, hu3⟩
        obtain ⟨pg, hpg⟩ : ∃ g, p = .pointer (some ⟨g, 0, none⟩) := by
          obtain ⟨g, _, _, _, _, _, _, e, _⟩ := hT.out
          exact ⟨g, e⟩
        subst hpg
        go_wp2_with fail
        go_ret3
        refine ⟨hU2.trans hu3, .inr (.inr (.inr ?_))⟩
        rw [HG.out]
        simp only
        rw [HG2.out]
        exact ⟨by trivial, by trivial, HR.out, pg, B4, c4, rfl, hT, hr4.up hu3⟩
      | false =>
        have HR := Lib.hid hR
        clear hR
        go_wp2_with fail
        go_ret3
        refine ⟨hU2, .inr (.inr (.inl ?_))⟩
        rw [HG.out]
        simp only
        rw [HG2.out]
        exact ⟨by trivial, by trivial, HR.out, rfl⟩
    · have hf2' : ¬ ((f2 : Int) = 0) := by omega
      have hf2b : ((f2 : Int) != 0) = true := by simp; omega
      go_wp2_with fail
      go_ret3
      refine ⟨hU2, .inr (.inl ?_)⟩
      rw [HG.out]
      simp only
      rw [HG2.out]
      exact ⟨by trivial, hf2, rfl⟩
  · have hf1' : ¬ ((f1 : Int) = 0) := by omega
    have hf1b : ((f1 : Int) != 0) = true := by simp; omega
    go_wp2_with fail
    go_ret3
    refine ⟨hu1, .inl ?_⟩
    rw [HG.out]
    exact ⟨hf1, rfl⟩

theorem vlist_len (l : List Int) (h : ∀ x ∈ l, InK .i64 x) (hl : l.length ≤ 100000) : (vlist l).length ≤ 10 + 10 * l.length := by
  unfold vlist
  rw [List.length_append]
  have h1 := vput_len10 l.length (by omega)
  have h2 := vputs_len l h
  omega

set_option maxHeartbeats 4000000 in
theorem alphaBytes_calls {p : Value} {sy ct be : List Int} (w : World) (h : Tab w p sy ct be) (hs : ∀ x ∈ sy, 0 ≤ x) (hc : ∀ x ∈ ct, 0 ≤ x) (hl1 : sy.length ≤ 65536) (hl2 : ct.length ≤ 65536) :
    Calls Try.prog 61 #[p] w (RetOwn w 5 .u8 (vlist sy ++ vlist ct)) := by
  have HS := Lib.hid hs
  have HC := Lib.hid hc
  clear hs hc
  obtain ⟨g, A1, c1, A2, c2, A3, c3, rfl, hb, h1, h2, h3⟩ := h.out
  have g0 : w.cell? ⟨g, 0, none⟩ = some (.slice A1 sy.length c1) := hb.cell 0
  have g1 : w.cell? ⟨g, 1, none⟩ = some (.slice A2 ct.length c2) := hb.cell 1
  have HL : Hid ((vlist sy ++ vlist ct).length ≤ 1400000) := Lib.hid (by
    have e1 := vlist_len sy h1.wf (by omega)
    have e2 := vlist_len ct h2.wf (by omega)
    rw [List.length_append]; omega)
  go_enter Try.func61, Try.ntmps61
  go_wp2_with fail
  refine wp_region_tree (fun w' => Up w w') (.quiet 0 (.quiet 1 (.quiet 2 (.quiet 3 (.quiet 5 (.quiet 6 (.quiet 7 (.quiet 8 (.alt 4 (.alt 9 (.alt 10 (.alt 11 (.quiet 12 (.nil)) (.stop)) (.stop)) (.stop)) (.stop)))))))))) (by kernel_rfl) (by kernel_rfl) rfl (by kernel_rfl) (by kernel_rfl) (Up.refl _).drew ?_
  simp only [pickT, List.getElem?_cons_succ, List.getElem?_cons_zero, Option.getD_some]
  repeat (refine tree_step rfl (fun K hK => ?_); go_big_quiet_step ((intro _; rfl)); refine wpQuiet_nil (hK _ ?_); clear hK K)
  refine tree_load ⟨g, 0, none⟩ (.slice A1 sy.length c1) (by kernel_rfl) rfl (by kernel_rfl) (fun w' h => h.cell g0) ?_
  dsimp only [Act.put]
  simp only [List.setIfInBounds_toArray, List.set_cons_zero, List.set_cons_succ]
  repeat (refine tree_step rfl (fun K hK => ?_); go_big_quiet_step ((intro _; rfl)); refine wpQuiet_nil (hK _ ?_); clear hK K)
  refine tree_load ⟨g, 1, none⟩ (.slice A2 ct.length c2) (by kernel_rfl) rfl (by kernel_rfl) (fun w' h => h.cell g1) ?_
  dsimp only [Act.put]
  simp only [List.setIfInBounds_toArray, List.set_cons_zero, List.set_cons_succ]
  refine tree_do (fun K hK => ?_)
  have hu0 : Up w w.drew := (Up.refl _).drew
  generalize w.drew = w0 at *
  go_wp2_with fail
  refine (varList_pos A1 c1 sy w0 (h1.up hu0) (by omega) HS.out).mono ?_
  rintro e w1 ⟨v1, rfl, hv1, hu1⟩
  have hU1 := hu0.trans hu1
  obtain ⟨B1, d1, rfl, hr1⟩ := hv1.rd
  rw [show vput sy.length ++ vputs sy = vlist sy from rfl] at hv1 hr1 ⊢
  go_wp2_with fail
  refine ⟨hU1, ?_⟩
  refine tree_do (fun K hK => ?_)
  go_wp2_with fail
  refine (varList_pos A2 c2 ct w1 (h2.up hU1) (by omega) HC.out).mono ?_
  rintro e w2 ⟨v2, rfl, hv2, hu2⟩
  have hU2 := hU1.trans hu2
  obtain ⟨B2, d2, rfl, hr2⟩ := hv2.rd
  rw [show vput ct.length ++ vputs ct = vlist ct from rfl] at hv2 hr2 ⊢
  have hr12 := hr1.up hu2
  clear hv1 hv2 hr1
  generalize vlist sy = X at *
  generalize vlist ct = Y at *
  go_wp2_with fail
  refine ⟨hU2, ?_⟩
  refine tree_do (fun K hK => ?_)
  go_wp2_with fail
  have hA : Up w2 (w2.alloc (.cells #[.slice B1 X.length d1, .slice B2 Y.length d2] 76)) := (Up.refl _).alloc _
  refine ⟨hU2.trans hA, ?_⟩
  refine tree_do (fun K hK => ?_)
  go_wp2_with fail
  refine (concatBytes_n (rdl_two _ B1 B2 d1 d2 X Y _ _ _ (Blk.new w2 76 _).out rfl (hr12.up hA) (hr2.up hA)) (by have := HL.out; simp at this ⊢; omega) rfl).mono ?_
  rintro e w4 ⟨v4, rfl, hv4, hu4⟩
  rw [show [X, Y].flatten = X ++ Y by simp] at hv4
  have hU4 := hU2.trans (hA.trans hu4)
  obtain ⟨B4, d4, rfl, hr4⟩ := hv4.rd
  go_wp2_with fail
  refine ⟨hU4, ?_⟩
  repeat (refine tree_step rfl (fun K hK => ?_); go_big_quiet_step ((intro _; rfl)); refine wpQuiet_nil (hK _ ?_); clear hK K)
  refine tree_nil ?_
  go_wp2_with fail
  go_ret
  have hfin := RetOwn.of (hv4.mono (base' := w.heap.size) (by have := hU2.size; have := hA.size; omega)) hU4
  rw [List.length_append] at hfin
  exact hfin
end Go.Proofs.Ytneliajeokajbaa
