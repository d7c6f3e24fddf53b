/- AlphaTables: the walk of the law. -/
import Derived.Test.YtneliajeokajbaaAlphaTexts
namespace Go.Proofs.Ytneliajeokajbaa
open Go.RowKit
set_option maxRecDepth 100000

/-- The law's own sum: of the first so many counts. -/
theorem take_sum_succ (l : List Int) (k : Nat) (h : k < l.length) : (l.take (k + 1)).sum = (l.take k).sum + l.getD k 0 := by
  rw [take_succ_getD l k 0 h, List.sum_append]
  simp
theorem tcounts_get (t : List Int) (n i : Nat) (h : i < (tsyms t n).length) : (tcounts t n).getD i 0 = cnt t ((tsyms t n).getD i 0) := by
  unfold tcounts
  simp [List.getD_eq_getElem?_getD, List.getElem?_map, List.getElem?_eq_getElem h]
theorem getD_mem (l : List Int) (i : Nat) (h : i < l.length) : l.getD i 0 ∈ l := by
  rw [List.getD_eq_getElem?_getD, List.getElem?_eq_getElem h]
  exact List.getElem_mem h
theorem rising_inj {l : List Int} (h : Rising l) (i j : Nat) (hi : i < l.length) (hj : j < l.length) (e : l.getD i 0 = l.getD j 0) : i = j := by
  rcases Nat.lt_trichotomy i j with h1 | h1 | h1
  · have := h i j h1 hj; omega
  · exact h1
  · have := h j i h1 hi; omega
theorem symsB_get {t : List Int} (h : symsB t = true) {x : Int} (hx : x ∈ t) : 0 ≤ x ∧ x < 258 := by
  unfold symsB at h
  have := List.all_eq_true.1 h x hx
  simpa using this
theorem cnt_pos {t : List Int} {x : Int} : 0 < cnt t x ↔ x ∈ t := by
  unfold cnt
  exact List.count_pos_iff
theorem mem_tsyms {t : List Int} (h : symsB t = true) (x : Int) : x ∈ tsyms t 258 ↔ x ∈ t := by
  rw [tsyms_mem]
  constructor
  · rintro ⟨s, _, rfl, h0⟩
    exact cnt_pos.1 h0
  · intro hx
    obtain ⟨h0, h1⟩ := symsB_get h hx
    exact ⟨x.toNat, by omega, by omega, by rw [show ((x.toNat : Nat) : Int) = x by omega]; exact cnt_pos.2 hx⟩
theorem cnt_sum_all {t : List Int} (h : symsB t = true) : (tcounts t 258).sum = t.length := by
  have key : ∀ n, (tcounts t n).sum = ((t.filter (inB n)).length : Int) := by
    intro n
    induction n with
    | zero =>
      have : t.filter (inB 0) = [] := by
        rw [List.filter_eq_nil_iff]; intro x _; simp [inB]
      rw [this]; rfl
    | succ n ih =>
      rw [tcounts_succ, List.sum_append, ih, cnt_filter]
      congr 1
      split
      · simp
      · simp; omega
  rw [key]
  congr 2
  exact List.filter_eq_self.2 fun x hx => by
    obtain ⟨h0, h1⟩ := symsB_get h hx
    simp [inB]
    omega

set_option maxHeartbeats 8000000 in
theorem lawAlphaTables_calls (A : Option Addr) (c : Nat) (t0 : List Int) (s code : Int) (w : World) (h1 : Rd w .i64 A c t0) (_hs : InK .i64 s) (_hcode : InK .i64 code) :
    Calls Try.prog 5 #[.slice A t0.length c, .int .i64 s, .int .i64 code] w fun e w' => e = .returned (.bool true) ∧ Up w w' := by
  obtain ⟨m, hm, hmc, hm2, HM, hrdm⟩ := min_of h1 200
  rw [show ((200 : Nat) : Int) = 200 from rfl] at hm hm2
  have HT := Lib.hid (List.length_take_le 200 t0)
  generalize hs : t0.take 200 = t at *
  clear hs
  have hms : m = t.length := HM.out
  subst hms
  go_enter Try.func5, Try.ntmps5
  go_wp2_with fail
  refine (alphaNew_calls A c t w hrdm (by have := HT.out; omega)).mono ?_
  rintro e w1 ⟨hu1, hp⟩
  have HP : Hid (∃ (pv : Option Addr) (ev : Int), e = .returned (.tuple #[.pointer pv, .int .i64 ev]) ∧ ((symsB t = true ∧ ev = 0 ∧ Tab w1 (.pointer pv) (tsyms t 258) (tcounts t 258) (sums (tcounts t 258))) ∨ (symsB t = false ∧ pv = none ∧ ev = 10))) := Lib.hid (by
    rcases hp with ⟨hB, p, rfl, hT⟩ | ⟨hB, rfl⟩
    · obtain ⟨pg, hpg⟩ : ∃ g, p = .pointer (some ⟨g, 0, none⟩) := by
        obtain ⟨g, _, _, _, _, _, _, e, _⟩ := hT.out
        exact ⟨g, e⟩
      subst hpg
      exact ⟨_, _, rfl, .inl ⟨hB, rfl, hT⟩⟩
    · exact ⟨_, _, rfl, .inr ⟨hB, rfl, rfl⟩⟩)
  clear hp
  obtain ⟨pv, ev, rfl, hcase⟩ := HP.out
  clear HP
  have HC := Lib.hid hcase
  clear hcase
  have hrt := hrdm.up hu1
  go_wp2_with fail
  go_loopw [9, 10] (fun r i wr => ∃ (k : Nat) (b : Bool), k ≤ t.length ∧ i = .int .i64 k ∧ r = .bool b ∧ Hid (b = symsB (t.take k)) ∧ w1 = wr) (fun _ i _ => t.length - (intOf i).toNat)
  case atStart => exact ⟨0, true, by omega, rfl, rfl, Lib.hid rfl, rfl⟩
  case round =>
    obtain ⟨k, b, hk, rfl, rfl, HB, rfl⟩ := hrel
    by_cases hlt : k < t.length
    · obtain ⟨ad, x, rfl, hc, HX, _⟩ := hrt.get k hlt
      have HN := Lib.hid (show symsB (t.take (k + 1)) = (b && (decide (0 ≤ x) && decide (x < 258))) by
        rw [take_succ_getD t k 0 hlt, HX.out, HB.out]
        unfold symsB
        rw [List.all_append]
        simp)
      cases b with
      | true =>
        rw [Bool.true_and] at HN
        by_cases hx0 : 0 ≤ x
        · by_cases hx1 : x < 258
          · have HN2 : Hid (true = symsB (t.take (k + 1))) := Lib.hid (by rw [HN.out]; simp [hx0, hx1])
            go_wp2_with fail
            go_roundw
            case rel => exact ⟨k + 1, true, by omega, by simp, rfl, HN2, trivial⟩
            case measure => simp [intOf]; omega
          · have HN2 : Hid (false = symsB (t.take (k + 1))) := Lib.hid (by rw [HN.out]; simp; omega)
            go_wp2_with fail
            go_roundw
            case rel => exact ⟨k + 1, false, by omega, by simp, rfl, HN2, trivial⟩
            case measure => simp [intOf]; omega
        · have HN2 : Hid (false = symsB (t.take (k + 1))) := Lib.hid (by rw [HN.out]; simp; omega)
          go_wp2_with fail
          go_roundw
          case rel => exact ⟨k + 1, false, by omega, by simp, rfl, HN2, trivial⟩
          case measure => simp [intOf]; omega
      | false =>
        have HN2 : Hid (false = symsB (t.take (k + 1))) := Lib.hid (by rw [HN.out]; rfl)
        go_wp2_with fail
        go_roundw
        case rel => exact ⟨k + 1, false, by omega, by simp, rfl, HN2, trivial⟩
        case measure => simp [intOf]; omega
    · have hke : k = t.length := by omega
      subst hke
      rw [List.take_length] at HB
      rcases HC.out with ⟨hB, rfl, hT⟩ | ⟨hB, rfl, rfl⟩
      case inr =>
        have hb : b = false := HB.out.trans hB
        subst hb
        clear HC HB hB
        go_wp2_with fail
        refine (law14known_calls w1).mono ?_
        rintro e w2 ⟨rfl, hu2⟩
        go_wp2_with fail
        go_ret
        exact ⟨rfl, hu1.trans hu2⟩
      have hb : b = true := HB.out.trans hB
      subst hb
      clear HC HB
      have HB := Lib.hid hB
      clear hB
      go_wp2_with fail
      refine (ref14Table_calls A c t w1 hrt).mono ?_
      rintro e w2 ⟨hu2, v1, v2, rfl, hv1, hv2⟩
      obtain ⟨B1, c1, rfl, hr1⟩ := hv1.rd
      obtain ⟨B2, c2, rfl, hr2⟩ := hv2.rd
      have hT2 := hT.up hu2
      have hrt2 := hrt.up hu2
      have HSR := Lib.hid (tsyms_rising t 258)
      have HM := Lib.hid (fun x => mem_tsyms HB.out x)
      have HSL := Lib.hid (tsyms_len t 258)
      have HCL := Lib.hid (tcounts_len t 258)
      have HCG := Lib.hid (tcounts_get t 258)
      have HCS := Lib.hid (cnt_sum_all HB.out)
      have HPS := Lib.hid (tcounts_pos t 258)
      generalize hsy : tsyms t 258 = sy at *
      generalize hct : tcounts t 258 = ct at *
      clear hsy hct hv1 hv2
      have HSUM := Lib.hid (show (sums ct).length = sy.length + 1 by rw [sums_len, HCL.out])
      have hsl : sy.length ≤ 258 := HSL.out
      go_wp2_with fail
      refine (alphaSigma_calls w2 hT2).mono ?_
      rintro e w3 ⟨rfl, rfl⟩
      go_wp2_with fail
      refine (alphaLen_calls w2 hT2 (by rw [HSUM.out]; omega)).mono ?_
      have HLEN : Hid ((sums ct).getD sy.length 0 = t.length) := Lib.hid (by rw [← HCL.out, sums_last, HCS.out])
      rw [HLEN.out]
      rintro e w3 ⟨rfl, hq3⟩
      have hu23 := hu2.trans hq3.up
      have hT3 := hT2.up hq3.up
      have hrt3 := hrt2.up hq3.up
      have hr13 := hr1.up hq3.up
      have hr23 := hr2.up hq3.up
      have hU3 := hu1.trans hu23
      clear hT hT2 hr1 hr2 hrt2 hrt hu2 hu23 HLEN
      have HSS := Lib.hid (fun k (h : k ≤ ct.length) => sums_get ct k h)
      generalize hbe : sums ct = be at *
      have HCS2 := HCS.out
      go_wp2_with fail
      go_loopw [13, 14, 15, 16, 17, 18, 19, 20] (fun n c _ _ _ _ _ _ wr => ∃ (k : Nat) (m : Int), k ≤ sy.length ∧ c = .int .i64 k ∧ n = .int .i64 m ∧ Hid (m = (ct.take k).sum) ∧ Up w3 wr) (fun _ c _ _ _ _ _ _ _ => sy.length - (intOf c).toNat)
      case atStart => exact ⟨0, 0, by omega, rfl, rfl, Lib.hid (by simp), Up.refl _⟩
      case round =>
        obtain ⟨k, m, hk, rfl, rfl, HM2, hur⟩ := hrel
        have hT4 := hT3.up hur
        have HBE := Lib.hid (show be.getD k 0 = m by rw [HSS.out k (by rw [HCL.out]; exact hk), HM2.out])
        by_cases hlt : k < sy.length
        · have hkn : ((k : Int) == (sy.length : Int)) = false := by simp; omega
          go_wp2_with fail
          refine (alphaC_calls (k : Int) wr hT4 (by rw [HSUM.out]; omega)).mono ?_
          rw [if_pos ⟨by omega, by omega⟩, show ((k : Int)).toNat = k from rfl, HBE.out]
          rintro e w5 ⟨rfl, rfl⟩
          go_wp2_with fail
          refine (alphaSymbol_calls (k : Int) wr hT4).mono ?_
          rw [if_pos ⟨by omega, by omega⟩, show ((k : Int)).toNat = k from rfl]
          obtain ⟨ad1, x, rfl, hc1, HX, _⟩ := (hr13.up hur).get k hlt
          obtain ⟨ad2, y, rfl, hc2, HY, hyr⟩ := (hr23.up hur).get k (by rw [HCL.out]; exact hlt)
          rw [HX.out]
          rintro e w5 ⟨rfl, rfl⟩
          go_wp2_with fail
          refine (alphaCode_calls x wr hT4 HSR.out.srt (by omega)).mono ?_
          rintro e w5 ⟨rfl, hp⟩
          rcases hp with ⟨i, hi, hx, rfl⟩ | ⟨hn, _⟩
          case inr => exact absurd (by rw [← HX.out]; exact getD_mem sy k hlt) hn
          have hik : i = k := rising_inj HSR.out i k hi hlt (hx.trans HX.out.symm)
          subst hik
          clear hx
          have HC9 := Lib.hid (show ∀ n, Calls Try.prog 36 #[.pointer pv, .int .i64 (i : Int)] (wr.drewN n) fun e w' => e = .returned (.int .i64 y) ∧ w' = wr.drewN n by
            intro n
            have := alphaCount_calls (i : Int) (wr.drewN n) (hT4.up ((Up.refl _).drewN n)) HCL.out
            rw [if_pos ⟨by omega, by omega⟩, show ((i : Int)).toNat = i from rfl, HY.out] at this
            exact this.mono fun _ _ ⟨h1, h2⟩ => ⟨h1, h2.symm⟩)
          have hyb := Lib.hid (show y ≤ 65536 ∧ 0 ≤ y by
            have h8 : y ∈ ct := by rw [← HY.out]; exact getD_mem ct i (by rw [HCL.out]; exact hlt)
            have h9 := HPS.out y h8
            have h10 := take_sum_succ ct i (by rw [HCL.out]; exact hlt)
            have h11 := sum_take_le ct HPS.out (i + 1)
            have h12 := sum_take_le ct HPS.out i
            have := HT.out
            rw [HY.out] at h10
            omega)
          have hmb := Lib.hid (show m ≤ 65536 ∧ 0 ≤ m by
            have h12 := sum_take_le ct HPS.out i
            have := HT.out
            rw [HM2.out]
            omega)
          have HN := Lib.hid (show m + y = (ct.take (i + 1)).sum by rw [take_sum_succ ct i (by rw [HCL.out]; exact hlt), HY.out, HM2.out])
          go_wp2_with fail
          have hict : i < ct.length := by rw [HCL.out]; exact hlt
          refine wp_region_tree (fun w' => Up wr w') (.quiet 0 (.quiet 1 (.quiet 2 (.quiet 3 (.quiet 4 (.quiet 5 (.quiet 6 (.quiet 7 (.quiet 8 (.quiet 9 (.quiet 10 (.quiet 11 (.quiet 12 (.quiet 13 (.quiet 14 (.quiet 15 (.quiet 16 (.quiet 17 (.quiet 18 (.quiet 19 (.quiet 20 (.quiet 21 (.quiet 23 (.quiet 24 (.quiet 25 (.quiet 26 (.alt 22 (.quiet 27 (.quiet 28 (.nil))) (.stop)))))))))))))))))))))))))))) (by kernel_rfl) (by kernel_rfl) rfl (by kernel_rfl) (by kernel_rfl) (Up.refl _).drew ?_
          simp only [pickT, List.getElem?_cons_succ, List.getElem?_cons_zero, Option.getD_some]
          repeat (refine tree_step rfl (fun K hK => ?_); go_big_quiet_step ((intro _; rfl)); refine wpQuiet_nil (hK _ ?_); clear hK K)
          refine tree_load (ad1.add i) (.int .i64 x) (by kernel_rfl) rfl (by kernel_rfl) (fun w' h => h.cell hc1) ?_
          dsimp only [Act.put]
          simp only [List.setIfInBounds_toArray, List.set_cons_zero, List.set_cons_succ]
          repeat (refine tree_step rfl (fun K hK => ?_); go_big_quiet_step ((intro _; rfl)); refine wpQuiet_nil (hK _ ?_); clear hK K)
          refine tree_load (ad2.add i) (.int .i64 y) (by kernel_rfl) rfl (by kernel_rfl) (fun w' h => h.cell hc2) ?_
          dsimp only [Act.put]
          simp only [List.setIfInBounds_toArray, List.set_cons_zero, List.set_cons_succ]
          refine tree_do (fun K hK => ?_)
          go_wp2_with fail
          refine (alphaCount_calls (i : Int) _ (hT4.up (Up.refl _).drew) HCL.out).mono ?_
          rw [if_pos ⟨by omega, by omega⟩, show ((i : Int)).toNat = i from rfl, HY.out]
          rintro e w5 ⟨rfl, rfl⟩
          go_wp2_with fail
          refine ⟨(Up.refl _).drew, ?_⟩
          repeat (refine tree_step rfl (fun K hK => ?_); go_big_quiet_step ((intro _; rfl)); refine wpQuiet_nil (hK _ ?_); clear hK K)
          refine tree_nil ?_
          obtain ⟨hy1, hy0⟩ := hyb.out
          obtain ⟨hm1, hm0⟩ := hmb.out
          go_wp2_with fail
          go_roundw
          case rel => exact ⟨i + 1, m + y, by omega, by simp, rfl, HN, hur.drew⟩
          case measure => simp [intOf]; omega
        · have hke : k = sy.length := by omega
          subst hke
          have hkk : ((sy.length : Int) == (sy.length : Int)) = true := by simp
          go_wp2_with fail
          refine (alphaC_calls (sy.length : Int) wr hT4 (by rw [HSUM.out]; omega)).mono ?_
          rw [if_pos ⟨by omega, by omega⟩, show ((sy.length : Int)).toNat = sy.length from rfl, HBE.out]
          rintro e w5 ⟨rfl, rfl⟩
          clear HM2 HBE hkk
          go_wp2_with fail
          refine (alphaCode_calls s wr hT4 HSR.out.srt (by omega)).mono ?_
          rintro e w5 ⟨rfl, hp⟩
          have HF : Hid (∃ (v : Int) (f : Int) (b : Bool), e = .returned (.tuple #[.int .i64 v, .int .i64 f]) ∧ (f == 0) = b ∧ decide (0 < cnt t s) = b) := Lib.hid (by
            rcases hp with ⟨i, hi, hx, rfl⟩ | ⟨hn, rfl⟩
            · refine ⟨_, 0, true, rfl, rfl, ?_⟩
              rw [decide_eq_true_iff, cnt_pos, ← HM.out, ← hx]
              exact getD_mem sy i hi
            · refine ⟨_, 7, false, rfl, rfl, ?_⟩
              rw [decide_eq_false_iff_not, cnt_pos, ← HM.out]
              exact hn)
          clear hp
          obtain ⟨v, f, fb, rfl, hf, hfb⟩ := HF.out
          clear HF
          have HFB := Lib.hid hfb
          clear hfb
          have hrt4 := hrt3.up hur
          go_wp2_with fail
          refine (alphaSymbol_calls code wr hT4).mono ?_
          by_cases h0 : 0 ≤ code
          · by_cases h9 : code < sy.length
            ·
              rw [if_pos ⟨h0, h9⟩]
              rintro e w5 ⟨rfl, rfl⟩
              go_wp2_with fail
              refine (alphaC_calls code wr hT4 (by rw [HSUM.out]; omega)).mono ?_
              rw [if_pos ⟨h0, by omega⟩]
              rintro e w5 ⟨rfl, rfl⟩
              go_wp2_with fail
              refine (ref14Count_calls A c t s wr hrt4).mono ?_
              rintro e w5 ⟨rfl, rfl⟩
              have hfb := HFB.out
              go_wp2_with fail
              refine (alphaCodes_calls A c t wr hT4 HSR.out.srt (by omega) hrt4 (by have := HT.out; omega)).mono ?_
              rintro e w6 ⟨hu6, hp⟩
              rcases hp with ⟨v6, ms, rfl, hv6, hml, hR⟩ | ⟨hD, _⟩
              case inr => exact absurd (fun x hx => (HM.out x).2 hx) hD
              obtain ⟨B6, c6, rfl, hr6⟩ := hv6.rd
              have HR := Lib.hid (And.intro hml hR)
              clear hml hR
              go_wp2_with fail
              refine (alphaSymbols_calls B6 c6 ms w6 (hT4.up hu6) hr6 (by have := HT.out; have := HR.out.1; omega)).mono ?_
              rintro e w7 ⟨hu7, hp⟩
              rcases hp with ⟨v7, xs, rfl, hv7, hxl, hR2⟩ | ⟨hD, _⟩
              case inr =>
                refine absurd (fun x hx => ?_) hD
                obtain ⟨a, ha, hax⟩ := mem_getD ms x hx
                have := HR.out.2 a (by rw [← HR.out.1]; exact ha)
                rw [hax] at this
                exact ⟨this.1, this.2.1⟩
              have hxt : xs = t := eq_of_getD (by rw [hxl, HR.out.1]) fun i hi => by
                rw [hR2 i (by rw [← hxl]; exact hi)]
                exact (HR.out.2 i (by rw [← HR.out.1, ← hxl]; exact hi)).2.2
              clear hR2 hxl
              subst hxt
              obtain ⟨B7, c7, rfl, hr7⟩ := hv7.rd
              go_wp2_with fail
              refine (law14known_calls w7).mono ?_
              rintro e w8 ⟨rfl, hu8⟩
              go_wp2_with fail
              refine (ref6Same_eq (hr7.up hu8) (hrt4.up (hu6.trans (hu7.trans hu8))) rfl rfl rfl).mono ?_
              rintro e w9 ⟨rfl, hq9⟩
              go_wp2_with fail
              go_ret
              exact ⟨rfl, hU3.trans (hur.trans (hu6.trans (hu7.trans (hu8.trans hq9.up))))⟩
            · by_cases h8 : code = sy.length
              ·
                have h7 : (code == (sy.length : Int)) = true := by simpa using h8
                have h6 : code ≤ sy.length := by omega
                clear h8
                rw [if_neg (fun h => by omega)]
                rintro e w5 ⟨rfl, rfl⟩
                go_wp2_with fail
                refine (alphaC_calls code wr hT4 (by rw [HSUM.out]; omega)).mono ?_
                rw [if_pos ⟨h0, h6⟩]
                rintro e w5 ⟨rfl, rfl⟩
                go_wp2_with fail
                refine (ref14Count_calls A c t s wr hrt4).mono ?_
                rintro e w5 ⟨rfl, rfl⟩
                have hfb := HFB.out
                go_wp2_with fail
                refine (alphaCount_calls code wr hT4 HCL.out).mono ?_
                rw [if_neg (fun h => by omega)]
                rintro e w5 ⟨rfl, rfl⟩
                go_wp2_with fail
                refine (alphaCodes_calls A c t wr hT4 HSR.out.srt (by omega) hrt4 (by have := HT.out; omega)).mono ?_
                rintro e w6 ⟨hu6, hp⟩
                rcases hp with ⟨v6, ms, rfl, hv6, hml, hR⟩ | ⟨hD, _⟩
                case inr => exact absurd (fun x hx => (HM.out x).2 hx) hD
                obtain ⟨B6, c6, rfl, hr6⟩ := hv6.rd
                have HR := Lib.hid (And.intro hml hR)
                clear hml hR
                go_wp2_with fail
                refine (alphaSymbols_calls B6 c6 ms w6 (hT4.up hu6) hr6 (by have := HT.out; have := HR.out.1; omega)).mono ?_
                rintro e w7 ⟨hu7, hp⟩
                rcases hp with ⟨v7, xs, rfl, hv7, hxl, hR2⟩ | ⟨hD, _⟩
                case inr =>
                  refine absurd (fun x hx => ?_) hD
                  obtain ⟨a, ha, hax⟩ := mem_getD ms x hx
                  have := HR.out.2 a (by rw [← HR.out.1]; exact ha)
                  rw [hax] at this
                  exact ⟨this.1, this.2.1⟩
                have hxt : xs = t := eq_of_getD (by rw [hxl, HR.out.1]) fun i hi => by
                  rw [hR2 i (by rw [← hxl]; exact hi)]
                  exact (HR.out.2 i (by rw [← HR.out.1, ← hxl]; exact hi)).2.2
                clear hR2 hxl
                subst hxt
                obtain ⟨B7, c7, rfl, hr7⟩ := hv7.rd
                go_wp2_with fail
                refine (law14known_calls w7).mono ?_
                rintro e w8 ⟨rfl, hu8⟩
                go_wp2_with fail
                refine (ref6Same_eq (hr7.up hu8) (hrt4.up (hu6.trans (hu7.trans hu8))) rfl rfl rfl).mono ?_
                rintro e w9 ⟨rfl, hq9⟩
                go_wp2_with fail
                go_ret
                exact ⟨rfl, hU3.trans (hur.trans (hu6.trans (hu7.trans (hu8.trans hq9.up))))⟩
              ·
                have h7 : (code == (sy.length : Int)) = false := by simpa using h8
                rw [if_neg (fun h => by omega)]
                rintro e w5 ⟨rfl, rfl⟩
                go_wp2_with fail
                refine (alphaC_calls code wr hT4 (by rw [HSUM.out]; omega)).mono ?_
                rw [if_neg (fun h => by omega)]
                rintro e w5 ⟨rfl, rfl⟩
                go_wp2_with fail
                refine (ref14Count_calls A c t s wr hrt4).mono ?_
                rintro e w5 ⟨rfl, rfl⟩
                have hfb := HFB.out
                go_wp2_with fail
                refine (alphaCount_calls code wr hT4 HCL.out).mono ?_
                rw [if_neg (fun h => by omega)]
                rintro e w5 ⟨rfl, rfl⟩
                go_wp2_with fail
                refine (alphaCodes_calls A c t wr hT4 HSR.out.srt (by omega) hrt4 (by have := HT.out; omega)).mono ?_
                rintro e w6 ⟨hu6, hp⟩
                rcases hp with ⟨v6, ms, rfl, hv6, hml, hR⟩ | ⟨hD, _⟩
                case inr => exact absurd (fun x hx => (HM.out x).2 hx) hD
                obtain ⟨B6, c6, rfl, hr6⟩ := hv6.rd
                have HR := Lib.hid (And.intro hml hR)
                clear hml hR
                go_wp2_with fail
                refine (alphaSymbols_calls B6 c6 ms w6 (hT4.up hu6) hr6 (by have := HT.out; have := HR.out.1; omega)).mono ?_
                rintro e w7 ⟨hu7, hp⟩
                rcases hp with ⟨v7, xs, rfl, hv7, hxl, hR2⟩ | ⟨hD, _⟩
                case inr =>
                  refine absurd (fun x hx => ?_) hD
                  obtain ⟨a, ha, hax⟩ := mem_getD ms x hx
                  have := HR.out.2 a (by rw [← HR.out.1]; exact ha)
                  rw [hax] at this
                  exact ⟨this.1, this.2.1⟩
                have hxt : xs = t := eq_of_getD (by rw [hxl, HR.out.1]) fun i hi => by
                  rw [hR2 i (by rw [← hxl]; exact hi)]
                  exact (HR.out.2 i (by rw [← HR.out.1, ← hxl]; exact hi)).2.2
                clear hR2 hxl
                subst hxt
                obtain ⟨B7, c7, rfl, hr7⟩ := hv7.rd
                go_wp2_with fail
                refine (law14known_calls w7).mono ?_
                rintro e w8 ⟨rfl, hu8⟩
                go_wp2_with fail
                refine (ref6Same_eq (hr7.up hu8) (hrt4.up (hu6.trans (hu7.trans hu8))) rfl rfl rfl).mono ?_
                rintro e w9 ⟨rfl, hq9⟩
                go_wp2_with fail
                go_ret
                exact ⟨rfl, hU3.trans (hur.trans (hu6.trans (hu7.trans (hu8.trans hq9.up))))⟩
          ·
            have h7 : (code == (sy.length : Int)) = false := by simp; omega
            rw [if_neg (fun h => by omega)]
            rintro e w5 ⟨rfl, rfl⟩
            go_wp2_with fail
            refine (alphaC_calls code wr hT4 (by rw [HSUM.out]; omega)).mono ?_
            rw [if_neg (fun h => by omega)]
            rintro e w5 ⟨rfl, rfl⟩
            go_wp2_with fail
            refine (ref14Count_calls A c t s wr hrt4).mono ?_
            rintro e w5 ⟨rfl, rfl⟩
            have hfb := HFB.out
            go_wp2_with fail
            refine (alphaCount_calls code wr hT4 HCL.out).mono ?_
            rw [if_neg (fun h => by omega)]
            rintro e w5 ⟨rfl, rfl⟩
            go_wp2_with fail
            refine (alphaCodes_calls A c t wr hT4 HSR.out.srt (by omega) hrt4 (by have := HT.out; omega)).mono ?_
            rintro e w6 ⟨hu6, hp⟩
            rcases hp with ⟨v6, ms, rfl, hv6, hml, hR⟩ | ⟨hD, _⟩
            case inr => exact absurd (fun x hx => (HM.out x).2 hx) hD
            obtain ⟨B6, c6, rfl, hr6⟩ := hv6.rd
            have HR := Lib.hid (And.intro hml hR)
            clear hml hR
            go_wp2_with fail
            refine (alphaSymbols_calls B6 c6 ms w6 (hT4.up hu6) hr6 (by have := HT.out; have := HR.out.1; omega)).mono ?_
            rintro e w7 ⟨hu7, hp⟩
            rcases hp with ⟨v7, xs, rfl, hv7, hxl, hR2⟩ | ⟨hD, _⟩
            case inr =>
              refine absurd (fun x hx => ?_) hD
              obtain ⟨a, ha, hax⟩ := mem_getD ms x hx
              have := HR.out.2 a (by rw [← HR.out.1]; exact ha)
              rw [hax] at this
              exact ⟨this.1, this.2.1⟩
            have hxt : xs = t := eq_of_getD (by rw [hxl, HR.out.1]) fun i hi => by
              rw [hR2 i (by rw [← hxl]; exact hi)]
              exact (HR.out.2 i (by rw [← HR.out.1, ← hxl]; exact hi)).2.2
            clear hR2 hxl
            subst hxt
            obtain ⟨B7, c7, rfl, hr7⟩ := hv7.rd
            go_wp2_with fail
            refine (law14known_calls w7).mono ?_
            rintro e w8 ⟨rfl, hu8⟩
            go_wp2_with fail
            refine (ref6Same_eq (hr7.up hu8) (hrt4.up (hu6.trans (hu7.trans hu8))) rfl rfl rfl).mono ?_
            rintro e w9 ⟨rfl, hq9⟩
            go_wp2_with fail
            go_ret
            exact ⟨rfl, hU3.trans (hur.trans (hu6.trans (hu7.trans (hu8.trans hq9.up))))⟩
end Go.Proofs.Ytneliajeokajbaa
