/- CrcMarks: marked bytes are the bytes and their sum, and hold; other bytes hold just if their last four are that: the law's walk. -/
import Derived.Test.YthnkebihpmggbaaCrcKnown
import Derived.Test.YthnkebihpmggbaaCrcTurnPlain
import Derived.Test.YthnkebihpmggbaaPi
namespace Go.Proofs.Ythnkebihpmggbaa
open Go.RowKit
set_option maxRecDepth 100000

theorem low4_len (n : Nat) : (low4 n).length = 4 := rfl

/-- The least of a length and a bound, as the walk reckons it. -/
theorem min_fact {w : World} {k : IntKind} {A : Option Addr} {c : Nat} {l : List Int} (h : Rd w k A c l) (b : Nat) :
    ∃ m : Nat, (if (b : Int) < (l.length : Int) then (b : Int) else (l.length : Int)) = (m : Int) ∧ (m : Int) ≤ (c : Int) ∧ (m : Int) ≤ (b : Int) ∧ Hid (m = (l.take b).length) ∧ Rd w k A c (l.take b) :=
  ⟨min l.length b, by split <;> omega, by have := h.le; omega, by omega, Lib.hid (by rw [List.length_take, Nat.min_comm]), h.take b⟩

set_option maxHeartbeats 2000000 in
theorem lawCrcMarks_calls (A : Option Addr) (c : Nat) (l : List Int) (w : World) (h1 : Rd w .u8 A c l) :
    Calls Try.prog 6 #[.slice A l.length c] w fun e w' => e = .returned (.bool true) ∧ Up w w' := by
  have hlen := h1.len
  obtain ⟨m, hm, hmc, hm3, HM, hb⟩ := min_fact h1 300
  rw [show ((300 : Nat) : Int) = 300 from rfl] at hm hm3
  generalize hB : l.take 300 = b at *
  have HB := Lib.hid hB
  clear hB
  have HC := Lib.hid (CrcPlain.crc_lt b hb.u8)
  have hbl : b.length ≤ 300 := by have := HM.out; omega
  go_enter Try.func6, Try.ntmps6
  go_wp2_with fail
  refine (crcMark_n hb (by omega) HM.out).mono ?_
  rintro e w1 ⟨v1, rfl, hv1, hu1⟩
  obtain ⟨B1, d1, rfl, hr1⟩ := hv1.rd
  have hb1 := hb.up hu1
  have ho : Own (w1.alloc (.cells #[] 5)) w1.heap.size 5 .u8 (.slice (some ⟨w1.heap.size, 0, none⟩) 0 0) [] := Own.lit w1 _ _ _ [] (Nat.le_refl _) (by simp) (by simp) 0 rfl _ rfl
  have hu2 := (Up.refl w1).alloc (.cells #[] 5)
  go_wp2_with (refine wpl_append (t := 23) w1.heap.size 5 .u8 1 Try.underlying23 infoU8 (.slice (some ⟨w1.heap.size, 0, none⟩) 0 0) _ rfl ho A _ c b rfl HM.out (hb1.up hu2) (by simp; omega) (by decide) (by simp) ?_; intro v3 w3 hv3 hu3 _)
  have hU3 : Up w1 w3 := hu2.thenx hu3 fun i hi e => by have e' : w1.heap.size = i := Option.some.inj e; omega
  clear hu3 ho hu2
  refine (refSum_n (hb1.up hU3) HM.out).mono ?_
  rintro e w3 ⟨rfl, rfl⟩
  go_wp2_with fail
  refine (refLow_calls _ _ HC.out).mono ?_
  rintro e w4 ⟨v4, rfl, hv4, hu4⟩
  obtain ⟨B4, d4, rfl, hr4⟩ := hv4.rd
  have hv34 : Own w4 w1.heap.size 5 .u8 v3 b := by simpa using hv3.up hu4
  go_wp2_with (refine wpl_append (t := 23) w1.heap.size 5 .u8 1 Try.underlying23 infoU8 v3 _ rfl hv34 B4 _ d4 _ rfl rfl hr4 (by simp [low4]; omega) (by decide) (Nat.le_trans hU3.size hu4.size) ?_; intro v5 w5 hv5 hu5 _)
  have hU5 : Up w1 w5 := (hU3.trans hu4).thenx hu5 fun i hi e => by have := (hv34.lt i e).1; omega
  clear hu5
  have hv5' : Own w5 w1.heap.size 5 .u8 v5 (marked b) := hv5
  obtain ⟨B5, d5, rfl, hr5⟩ := hv5'.rd
  have hb5 := hb1.up hU5
  have hle := hb.le
  go_cut [5, 6] (fun _ v wx => v = .bool (holds b) ∧ Up w5 wx)
  case first =>
    by_cases h4 : 4 ≤ m
    · obtain ⟨q, hq, hqc, hqm, HQ⟩ : ∃ q : Nat, (m : Int) - 4 = (q : Int) ∧ (q : Int) ≤ (c : Int) ∧ (q : Int) ≤ (m : Int) ∧ Hid (q = m - 4) := ⟨m - 4, by omega, by omega, by omega, Lib.hid rfl⟩
      have hmax : (if (q : Int) < 0 then (0 : Int) else (q : Int)) = (q : Int) := by rw [if_neg (by omega)]
      have hs1 : Rd w5 .u8 A c (b.take q) := hb5.take q
      have hs2 : Rd w5 .u8 (A.map (·.add q)) (c - q) (b.drop q) := by
        have := hb5.drop_ q (by have := HM.out; omega)
        rwa [if_neg (by have := HM.out; omega)] at this
      have L1 := Lib.hid (show q = (b.take q).length by rw [List.length_take]; have := HM.out; omega)
      have L2 := Lib.hid (show m - q = (b.drop q).length by rw [List.length_drop]; have := HM.out; omega)
      have HC2 := Lib.hid (CrcPlain.crc_lt (b.take q) hs1.u8)
      have HH := Lib.hid (show holds b = decide (b.drop q = low4 (CrcPlain.crc (b.take q))) by
        unfold holds
        rw [← HM.out, ← HQ.out, decide_eq_true h4, Bool.true_and])
      refine wp_region_pick (fun w' => Up w5 w') [(true, 0), (true, 1), (true, 2), (true, 3), (true, 4), (true, 5), (true, 6), (true, 7), (true, 8), (true, 9), (true, 10), (false, 11), (false, 12), (false, 13), (true, 14), (true, 15)] (by kernel_rfl) (by kernel_rfl) (by kernel_rfl) (by kernel_rfl) (by kernel_rfl) (Up.refl w5).drew ?_
      simp only [pick, List.map_cons, List.map_nil, List.getElem?_cons_succ, List.getElem?_cons_zero, Option.getD_some]
      repeat (refine pi_step rfl (fun K hK => ?_); go_big_quiet_step ((intro _; rfl)); refine wpQuiet_nil (hK _ ?_); clear hK K)
      refine pi_do (fun K hK => ?_)
      go_wp2_with (go_at_call 14; refine (refSum_n (hs1.up (Up.refl w5).drew) L1.out).mono ?_; rintro e w6 ⟨rfl, rfl⟩)
      refine ⟨(Up.refl w5).drew, ?_⟩
      refine pi_do (fun K hK => ?_)
      go_wp2_with (go_at_call 28; refine (refLow_calls _ _ HC2.out).mono ?_; rintro e w6 ⟨v6, rfl, hv6, hu6⟩; obtain ⟨B6, d6, rfl, hr6⟩ := hv6.rd)
      refine ⟨(Up.refl w5).drew.trans hu6, ?_⟩
      refine pi_do (fun K hK => ?_)
      go_wp2_with (go_at_call 20; refine (refSame_n (hs2.up ((Up.refl w5).drew.trans hu6)) hr6 L2.out rfl).mono ?_; rintro e w7 ⟨rfl, hq7⟩)
      have hu7 := (Up.refl w5).drew.trans (hu6.trans hq7.up)
      refine ⟨hu7, ?_⟩
      repeat (refine pi_step rfl (fun K hK => ?_); go_big_quiet_step ((intro _; rfl)); refine wpQuiet_nil (hK _ ?_); clear hK K)
      refine pi_nil ?_
      go_wp2_with fail
      go_meet
      refine ⟨?_, hu7⟩
      show Value.bool _ = Value.bool _
      rw [HH.out]
    · have hq : (m : Int) < 4 := by omega
      have hd : decide (4 ≤ (m : Int)) = false := by simpa using hq
      have HH := Lib.hid (show holds b = false by
        unfold holds
        rw [decide_eq_false (by have := HM.out; omega)]
        rfl)
      go_quiet (fail)
      go_wp2_with fail
      go_meet
      exact ⟨by rw [HH.out], (Up.refl _).drewN _⟩
  case rest =>
    obtain ⟨rfl, hu6⟩ := hcut
    have hr1c := (hr1.up hU5).up hu6
    have hr5c := hr5.up hu6
    have hb6 := hb5.up hu6
    have hm1 := Lib.hid (holds_marked b)
    have hml : (marked b).length ≤ 140737488355328 := by unfold marked; rw [List.length_append, low4_len]; omega
    go_wp2_with fail
    refine (crcKnown_calls _).mono ?_
    rintro e w7 ⟨rfl, hu7⟩
    go_wp2_with fail
    refine (refSame_n (hr1c.up hu7) (hr5c.up hu7) rfl rfl).mono ?_
    rintro e w8 ⟨rfl, hq8⟩
    have hu8 := hu7.trans hq8.up
    go_wp2_with fail
    refine (crcHolds_n (hr1c.up hu8) hml rfl).mono ?_
    rintro e w9 ⟨rfl, hu9⟩
    rw [hm1.out]
    go_wp2_with fail
    refine (crcHolds_n (hb6.up (hu8.trans hu9)) (by omega) HM.out).mono ?_
    rintro e w10 ⟨rfl, hu10⟩
    go_wp2
    go_ret
    exact ⟨by simp, hu1.trans (hU5.trans (hu6.trans (hu8.trans (hu9.trans hu10))))⟩
end Go.Proofs.Ythnkebihpmggbaa
