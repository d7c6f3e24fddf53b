/- CrcTurns: marked bytes of which one is turned don't hold; turned back they do; of a place that isn't there nothing is turned: the law's walk. -/
import Derived.Test.YthnkebihpmggbaaCrcKnown
import Derived.Test.YthnkebihpmggbaaCrcTurnPlain
import Derived.Test.YthnkebihpmggbaaCrcMarks
namespace Go.Proofs.Ythnkebihpmggbaa
open Go.RowKit
set_option maxRecDepth 100000

set_option maxHeartbeats 2000000 in
theorem lawCrcTurns_calls (A : Option Addr) (c : Nat) (l : List Int) (i y : Int) (w : World) (h1 : Rd w .u8 A c l) (hi : InK .i64 i) (hy : InK .u8 y) :
    Calls Try.prog 10 #[.slice A l.length c, .int .i64 i, .int .u8 y] w fun e w' => e = .returned (.bool true) ∧ Up w w' := by
  have hlen := h1.len
  obtain ⟨hi1, hi2⟩ := hi.i64
  obtain ⟨hy1, hy2⟩ := hy.u8
  obtain ⟨m, hm, hmc, hm3, HM, hb⟩ := min_fact h1 300
  rw [show ((300 : Nat) : Int) = 300 from rfl] at hm hm3
  generalize hB : l.take 300 = b at *
  have HB := Lib.hid hB
  clear hB
  have hbl : b.length ≤ 300 := by have := HM.out; omega
  have hu8 := hb.u8
  have HT := Lib.hid (turned_back (marked b) (marked_u8 b hu8) i y)
  have HH := Lib.hid (holds_turned b hu8 i y)
  have HH2 := Lib.hid (holds_marked b)
  have htl := turned_len (marked b) i y
  have htn := Lib.hid (show ¬ (0 ≤ i ∧ i < ((marked b).length : Int)) → turned (marked b) i y = marked b from fun h => by unfold turned; rw [if_neg h])
  have hml := marked_len b
  have hmm : (marked b).length = m + 4 := by rw [hml, HM.out]
  have H8 := Lib.hid hu8
  clear hu8
  generalize hM : marked b = M at *
  generalize hTT : turned M i y = T at *
  have HTT := Lib.hid hTT
  have HMM := Lib.hid hM
  have hML : ((M.length : Int) != (m : Int) + 4) = false := by simp; omega
  have HL := Lib.hid hmm
  have HTL := Lib.hid htl
  clear hTT hM hmm htl hml
  go_enter Try.func10, Try.ntmps10
  go_wp2_with fail
  refine (crcMark_n hb (by omega) HM.out).mono ?_
  rw [HMM.out]
  rintro e w1 ⟨v1, rfl, hv1, hu1⟩
  obtain ⟨B1, d1, rfl, hr1⟩ := hv1.rd
  have hMl : M.length ≤ 140737488355328 := by have := HL.out; omega
  go_wp2_with fail
  refine (crcTurn_n hr1 hMl rfl hi hy).mono ?_
  rw [HTT.out]
  rintro e w2 ⟨v2, rfl, hv2, hu2⟩
  obtain ⟨B2, d2, rfl, hr2⟩ := hv2.rd
  have hTl : T.length ≤ 140737488355328 := by rw [HTL.out]; exact hMl
  by_cases hin : 0 ≤ i ∧ i < (M.length : Int)
  · obtain ⟨hin1, hin2⟩ := hin
    have hd1 : decide (i < 0) = false := by simp; omega
    have hd2 : decide ((M.length : Int) ≤ i) = false := by simp; omega
    go_wp2_with fail
    refine (crcKnown_calls _).mono ?_
    rintro e w3 ⟨rfl, hu3⟩
    go_wp2_with fail
    refine (crcHolds_n (hr2.up hu3) hTl rfl).mono ?_
    rintro e w4 ⟨rfl, hu4⟩
    have hU4 := hu3.trans hu4
    rw [HH.out ⟨hin1, hin2⟩ ⟨hy1, hy2⟩]
    go_wp2_with fail
    refine (crcTurn_n (hr2.up hU4) hTl rfl hi hy).mono ?_
    rw [HT.out]
    rintro e w5 ⟨v5, rfl, hv5, hu5⟩
    obtain ⟨B5, d5, rfl, hr5⟩ := hv5.rd
    have hr15 := hr1.up (hu2.trans (hU4.trans hu5))
    go_wp2_with fail
    refine (refSame_n hr5 hr15 rfl rfl).mono ?_
    rintro e w6 ⟨rfl, hq6⟩
    go_wp2_with fail
    refine (crcHolds_n (hr15.up hq6.up) hMl rfl).mono ?_
    rw [HH2.out]
    rintro e w7 ⟨rfl, hu7⟩
    go_wp2
    go_ret
    exact ⟨by simp, hu1.trans (hu2.trans (hU4.trans (hu5.trans (hq6.up.trans hu7))))⟩
  · have e1 := htn.out hin
    subst e1
    by_cases hneg : i < 0
    · have hd1 : decide (i < 0) = true := by simpa using hneg
      go_wp2_with fail
      refine (crcKnown_calls _).mono ?_
      rintro e w3 ⟨rfl, hu3⟩
      go_wp2_with fail
      refine (refSame_n (hr2.up hu3) (hr1.up (hu2.trans hu3)) rfl rfl).mono ?_
      rintro e w6 ⟨rfl, hq6⟩
      go_wp2
      go_ret
      exact ⟨by simp, hu1.trans (hu2.trans (hu3.trans hq6.up))⟩
    · have hd1 : decide (i < 0) = false := by simpa using hneg
      have hd2 : decide ((T.length : Int) ≤ i) = true := by simp; omega
      go_wp2_with fail
      refine (crcKnown_calls _).mono ?_
      rintro e w3 ⟨rfl, hu3⟩
      go_wp2_with fail
      refine (refSame_n (hr2.up hu3) (hr1.up (hu2.trans hu3)) rfl rfl).mono ?_
      rintro e w6 ⟨rfl, hq6⟩
      go_wp2
      go_ret
      exact ⟨by simp, hu1.trans (hu2.trans (hu3.trans hq6.up))⟩
end Go.Proofs.Ythnkebihpmggbaa
