/- VarintPuts: the law's walk. -/
import Derived.Test.YthnkebihpmggbaaVarKnown
namespace Go.Proofs.Ythnkebihpmggbaa
open Go.RowKit
set_option maxRecDepth 100000

theorem refSame_eq {A B : Option Addr} {c d n m : Nat} {l k : List Int} {w : World} (h1 : Rd w .u8 A c l) (h2 : Rd w .u8 B d k) (hn : n = l.length) (hm : m = k.length) (h : l = k) :
    Calls Try.prog 20 #[.slice A n c, .slice B m d] w fun e w' => e = .returned (.bool true) ∧ Qt w w' := by
  have := refSame_n h1 h2 hn hm
  rwa [decide_eq_true h] at this
/-- The least of a length and a bound, as the walk reckons it. -/
theorem min_of {w : World} {k : IntKind} {A : Option Addr} {c : Nat} {l : List Int} (h : Rd w k A c l) (b : Nat) :
    ∃ m : Nat, (if (b : Int) < (l.length : Int) then (b : Int) else (l.length : Int)) = (m : Int) ∧ (m : Int) ≤ (c : Int) ∧ (m : Int) ≤ (b : Int) ∧ Hid (m = (l.take b).length) ∧ Rd w k A c (l.take b) :=
  ⟨min l.length b, by split <;> omega, by have := h.le; omega, by omega, Lib.hid (by rw [List.length_take, Nat.min_comm]), h.take b⟩
theorem own_empty (w : World) (e : Nat) (k : IntKind) : Own (w.alloc (.cells #[] e)) w.heap.size e k (.slice (some ⟨w.heap.size, 0, none⟩) 0 0) [] := Own.lit w _ _ _ [] (Nat.le_refl _) (by simp) (by simp) 0 rfl _ rfl

/-- The bytes of those numbers that have any. -/
def putAll (l : List Int) : List Int := ((l.filter (fun x => decide (0 ≤ x))).map (fun x => vput x.toNat)).flatten
theorem putAll_snoc (l : List Int) (x : Int) : putAll (l ++ [x]) = putAll l ++ (if 0 ≤ x then vput x.toNat else []) := by
  unfold putAll
  rw [List.filter_append, List.map_append, List.flatten_append]
  congr 1
  by_cases h : 0 ≤ x
  · simp [h]
  · simp [h]
theorem putAll_len (l : List Int) (h : ∀ x ∈ l, InK .i64 x) : (putAll l).length ≤ 10 * l.length := by
  have h1 := vflat_len (l.filter (fun x => decide (0 ≤ x))) (fun x hx => h x (List.mem_filter.1 hx).1)
  have h2 := List.length_filter_le (fun x => decide (0 ≤ x)) l
  unfold putAll
  omega
theorem putAll_all (l : List Int) (h : ∀ x ∈ l, 0 ≤ x) : putAll l = vputs l := by
  rw [vputs_some l h]
  unfold putAll
  rw [List.filter_eq_self.2 (fun x hx => by simpa using h x hx)]

set_option maxHeartbeats 4000000 in
theorem lawVarintPuts_calls (A : Option Addr) (c : Nat) (l : List Int) (A2 : Option Addr) (c2 : Nat) (b0 : List Int) (w : World) (h1 : Rd w .i64 A c l) (h2 : Rd w .u8 A2 c2 b0) :
    Calls Try.prog 5 #[.slice A l.length c, .slice A2 b0.length c2] w fun e w' => e = .returned (.bool true) ∧ Up w w' := by
  have hlen := h1.len
  have hlen2 := h2.len
  obtain ⟨q, hq, hqc, hq3, HQ, hb⟩ := min_of h2 20
  rw [show ((20 : Nat) : Int) = 20 from rfl] at hq hq3
  generalize hB : b0.take 20 = b at *
  have HB := Lib.hid hB
  clear hB
  have hbl : b.length ≤ 20 := by have := HQ.out; omega
  have HQl := Lib.hid hbl
  clear hbl
  obtain ⟨q2, hq2, hqc2, hq23, HQ2, hl2⟩ := min_of h1 12
  rw [show ((12 : Nat) : Int) = 12 from rfl] at hq2 hq23
  have hL1 : (l.take 12).length ≤ 12 := List.length_take_le 12 l
  generalize hL2 : l.take 12 = L at hl2 HQ2 hL1
  go_enter Try.func5, Try.ntmps5
  go_wp2_with fail
  go_loopw [5, 6, 7, 8, 9, 10, 11, 12, 13, 14, 15, 16] (fun all below i _ _ _ _ _ _ _ _ _ wr => ∃ (k : Nat) (B : Bool), k ≤ l.length ∧ k ≤ 12 ∧ i = .int .i64 k ∧ below = .bool B ∧ Own wr w.heap.size 5 .u8 all (putAll (l.take k)) ∧ Hid (B = decide (¬ ∀ x ∈ l.take k, 0 ≤ x)) ∧ Up w wr) (fun _ _ i _ _ _ _ _ _ _ _ _ _ => l.length - (intOf i).toNat)
  case atStart => exact ⟨0, false, by omega, by omega, rfl, rfl, by simpa [putAll] using Own.nil _ _ _ _, Lib.hid (by simp), Up.refl _⟩
  case round =>
    obtain ⟨k, B, hk, hk12, rfl, rfl, ho, HBB, hu⟩ := hrel
    have hlo := ho.lt
    by_cases hlt : k < l.length
    · by_cases h12 : k < 12
      · obtain ⟨ad, x, rfl, hcell, HX, hxr⟩ := h1.get k hlt
        have hcell' := hu.cell hcell
        have HT := Lib.hid (take_succ_getD l k 0 hlt)
        have hx2 := hxr.i64
        have hPL : (putAll (l.take k)).length ≤ 120 := by
          have := putAll_len (l.take k) (fun x hx => h1.wf x (List.mem_of_mem_take hx))
          have h2 := List.length_take_le k l
          omega
        have HPL := Lib.hid hPL
        clear hPL
        generalize hD : putAll (l.take k) = D at *
        have HD := Lib.hid hD
        clear hD
        go_wp2_with fail
        refine (varSigned_calls x wr hxr).mono ?_
        have HZ := Lib.hid (zig_lt x hxr)
        have HSL := Lib.hid (vput_len10 (zig x) HZ.out)
        rintro e w1 ⟨v1, rfl, hv1, hu1⟩
        obtain ⟨B1, d1, rfl, hr1⟩ := hv1.rd
        have hE := (Up.refl w1).alloc (.cells #[] 5)
        have hoE := own_empty w1 5 .u8
        have hw1 := hu.trans hu1
        go_wp2_with (first
          | (refine wpl_append (t := 23) w1.heap.size 5 .u8 1 Try.underlying23 infoU8 (.slice (some ⟨w1.heap.size, 0, none⟩) 0 0) _ rfl hoE B1 _ d1 (vput (zig x)) rfl rfl (hr1.up hE) (by have := HSL.out; simp; omega) (by decide) (by simp) ?_
             intro v2 w2 hv2 hu2 _
             have hU2 : Up w1 w2 := hE.thenx hu2 fun i hi e => by have e' : w1.heap.size = i := Option.some.inj e; omega)
          | (refine wpl_append (t := 23) w1.heap.size 5 .u8 1 Try.underlying23 infoU8 v2 _ rfl hv2 A2 _ c2 b rfl HQ.out ((hb.up hw1).up hU2) (by have := HSL.out; have := HQl.out; simp; omega) (by decide) hU2.size ?_
             intro v3 w3 hv3 hu3 _
             have hU3 : Up w1 w3 := hU2.thenx hu3 fun i hi e => by have := (hv2.lt i e).1; omega))
        rw [List.nil_append] at hv3
        clear hu2 hu3 hv2 hE hoE
        obtain ⟨B3, d3, rfl, hr3⟩ := hv3.rd
        have HTL := Lib.hid (show (vput (zig x) ++ b).length ≤ 30 by have := HSL.out; have := HQl.out; rw [List.length_append]; omega)
        refine (varGetSigned_calls _ _ _ w3 hr3 (by have := HTL.out; omega)).mono ?_
        rw [vget_vput 18446744073709551615 b (by omega) (zig x) (by have := HZ.out; omega)]
        intro e w4 hp
        obtain ⟨v4, rfl, hv4, hu4⟩ := hp.out
        rw [show vrest (zig x, (vput (zig x)).length, 0) (vput (zig x) ++ b) = b by simp [vrest]] at hv4
        rw [show unzig (zig x, (vput (zig x)).length, 0).1 = x from unzig_zig x]
        clear hp hv3
        obtain ⟨B4, d4, rfl, hr4⟩ := hv4.rd
        have hw4 := hw1.trans (hU3.trans hu4)
        have hb4 := hb.up hw4
        have hr14 := (hr1.up hU3).up hu4
        go_wp2_with fail
        refine (ref2Signed_calls x w4 hxr).mono ?_
        rintro e w5 ⟨rfl, rfl⟩
        go_wp2_with fail
        refine (ref2Put_calls (zig x) w4 HZ.out).mono ?_
        rintro e w5 ⟨v5, rfl, hv5, hu5⟩
        obtain ⟨B5, d5, rfl, hr5⟩ := hv5.rd
        go_wp2_with fail
        refine (refSame_eq (hr14.up hu5) hr5 rfl rfl rfl).mono ?_
        rintro e w6 ⟨rfl, hq6⟩
        have hw6 := hw4.trans (hu5.trans hq6.up)
        go_wp2_with fail
        refine (refSame_eq ((hr4.up hu5).up hq6.up) (hb.up hw6) rfl HQ.out rfl).mono ?_
        rintro e w7 ⟨rfl, hq7⟩
        have hw7 := hw6.trans hq7.up
        have hwr7 : Up wr w7 := hu1.trans (hU3.trans (hu4.trans (hu5.trans (hq6.up.trans hq7.up))))
        have ho7 := ho.up hwr7
        clear hr1 hv1 hr3 hr4 hr5 hr14 hv4 hv5 hb4 hw4 hw6 hq6 hq7 hu4 hu5 hU2 hU3 hu1
        by_cases h0 : x < 0
        · have HN := Lib.hid (vputs_neg x h0)
          go_wp2_with fail
          refine (varSize_calls x w7 hxr).mono ?_
          rw [HN.out]
          rintro e w8 ⟨rfl, hu8⟩
          have hr9 := rd_one w8 .i64 3 x hxr
          have hu9 : Up w8 (w8.alloc (.cells #[.int .i64 x] 3)) := (Up.refl _).alloc _
          go_wp2_with fail
          refine (varPut_n hr9 (by simp) rfl).mono ?_
          rw [HN.out]
          rintro e w9 ⟨v9, rfl, hv9, hu10⟩
          obtain ⟨B9, d9, rfl, hr9'⟩ := hv9.rd
          have hU := hu8.trans (hu9.trans hu10)
          go_wp2_with fail
          go_roundw
          case rel =>
            refine ⟨k + 1, true, by omega, by omega, by simp, rfl, ?_, Lib.hid ?_, hw7.trans hU⟩
            · rw [HT.out, putAll_snoc, HX.out, if_neg (by omega), HD.out, List.append_nil]
              exact ho7.up hU
            · rw [HT.out, HX.out]
              symm
              rw [decide_eq_true_iff]
              intro h
              have := h x (by simp)
              omega
          case measure => simp [intOf]; omega
        · obtain ⟨y, rfl⟩ := Int.eq_ofNat_of_zero_le (show 0 ≤ x by omega)
          have HN := Lib.hid (show vputs [(y : Int)] = vput y from vputs_one y (by omega))
          have HYL := Lib.hid (vput_len10 y (by omega))
          go_wp2_with fail
          refine (ref2Put_calls y w7 (by omega)).mono ?_
          rintro e w8 ⟨v8, rfl, hv8, hu8⟩
          obtain ⟨B8, d8, rfl, hr8⟩ := hv8.rd
          have ho8 := ho7.up hu8
          have hsz8 : w.heap.size ≤ w8.heap.size := (hw7.trans hu8).size
          have hv8lt := hv8.lt
          have hlt7 := ho7.lt
          go_wp2_with (first
            | (refine wpl_append (t := 23) w.heap.size 5 .u8 1 Try.underlying23 infoU8 u5 D rfl ho8 B8 _ d8 (vput y) rfl rfl hr8 (by have := HPL.out; have := HYL.out; omega) (by decide) hsz8 ?_
               intro a9 w9 ha9 hu9 _
               have hw9 : Up w w9 := (hw7.trans hu8).thenx hu9 fun i hi e => by have := (hlt7 i e).1; omega
               have hr9 : Rd w9 .u8 B8 d8 (vput y) := hr8.upx hu9 fun ad h0 hp e => by subst h0; have := (hv8lt ad.block rfl).1; have := (hlt7 ad.block e).2; omega
               have hE := (Up.refl w9).alloc (.cells #[] 5)
               have hoE := own_empty w9 5 .u8)
            | (refine wpl_append (t := 23) w9.heap.size 5 .u8 1 Try.underlying23 infoU8 (.slice (some ⟨w9.heap.size, 0, none⟩) 0 0) _ rfl hoE B8 _ d8 (vput y) rfl rfl (hr9.up hE) (by have := HYL.out; simp; omega) (by decide) (by simp) ?_
               intro v2 w2 hv2 hu2 _
               have hU2 : Up w9 w2 := hE.thenx hu2 fun i hi e => by have e' : w9.heap.size = i := Option.some.inj e; omega)
            | (refine wpl_append (t := 23) w9.heap.size 5 .u8 1 Try.underlying23 infoU8 v2 _ rfl hv2 A2 _ c2 b rfl HQ.out ((hb.up hw9).up hU2) (by have := HYL.out; have := HQl.out; simp; omega) (by decide) hU2.size ?_
               intro v3 w3 hv3 hu3 _
               have hU3 : Up w9 w3 := hU2.thenx hu3 fun i hi e => by have := (hv2.lt i e).1; omega))
          rw [List.nil_append] at hv3
          clear hu2 hu3 hv2 hE hoE hu9
          obtain ⟨B3, d3, rfl, hr3⟩ := hv3.rd
          have HTL := Lib.hid (show (vput y ++ b).length ≤ 30 by have := HYL.out; have := HQl.out; rw [List.length_append]; omega)
          refine (varGet_calls _ _ _ w3 hr3 (by have := HTL.out; omega)).mono ?_
          rw [vget_vput 9223372036854775807 b (by omega) y (by omega)]
          intro e w4 hp
          obtain ⟨v4, rfl, hv4, hu4⟩ := hp.out
          rw [show vrest (y, (vput y).length, 0) (vput y ++ b) = b by simp [vrest]] at hv4
          clear hp hv3
          obtain ⟨B4, d4, rfl, hr4⟩ := hv4.rd
          have hw4 := hw9.trans (hU3.trans hu4)
          have hr94 := (hr9.up hU3).up hu4
          go_wp2_with fail
          refine (varSize_calls y w4 hxr).mono ?_
          rw [HN.out]
          rintro e w5 ⟨rfl, hu5⟩
          have hr6 := rd_one w5 .i64 3 y hxr
          have hu6 : Up w5 (w5.alloc (.cells #[.int .i64 y] 3)) := (Up.refl _).alloc _
          go_wp2_with fail
          refine (varPut_n hr6 (by simp) rfl).mono ?_
          rw [HN.out]
          rintro e w6 ⟨v6, rfl, hv6, hu7⟩
          obtain ⟨B6, d6, rfl, hr6'⟩ := hv6.rd
          have hU := hu5.trans (hu6.trans hu7)
          go_wp2_with fail
          refine (refSame_eq hr6' (hr94.up hU) rfl rfl rfl).mono ?_
          rintro e w10 ⟨rfl, hq10⟩
          have hw10 := hw4.trans (hU.trans hq10.up)
          go_wp2_with fail
          refine (refSame_eq ((hr4.up hU).up hq10.up) (hb.up hw10) rfl HQ.out rfl).mono ?_
          rintro e w11 ⟨rfl, hq11⟩
          have hU11 := hU3.trans (hu4.trans (hU.trans (hq10.up.trans hq11.up)))
          go_wp2_with fail
          go_roundw
          case rel =>
            refine ⟨k + 1, B, by omega, by omega, by simp, rfl, ?_, Lib.hid ?_, hw9.trans hU11⟩
            · rw [HT.out, putAll_snoc, HX.out, if_pos (by omega), HD.out]
              exact ha9.up hU11
            · rw [HBB.out, HT.out, HX.out]
              simp
              intro h
              omega
          case measure => simp [intOf]; omega
      · have hL : l.take k = l.take 12 := by
          rcases Nat.le_total l.length 12 with h | h
          · rw [List.take_of_length_le (by omega), List.take_of_length_le (by omega)]
          · congr 1; omega
        rw [hL] at ho HBB
        rw [hL2] at ho HBB
        clear hL hL2
        have hU := hu
        cases B with
        | true =>
          have HN : Hid (vputs L = []) := Lib.hid (by
            have := HBB.out
            symm at this
            rw [decide_eq_true_iff] at this
            unfold vputs
            rw [if_neg this])
          go_wp2_with fail
          refine (varKnown_calls wr).mono ?_
          rintro e w1 ⟨rfl, hu1⟩
          go_wp2_with fail
          refine (varPut_n (hl2.up (hu.trans hu1)) (by omega) (by have := HQ2.out; split at hq2 <;> omega)).mono ?_
          rw [HN.out]
          rintro e w2 ⟨v2, rfl, hv2, hu2⟩
          obtain ⟨B2, d2, rfl, hr2⟩ := hv2.rd
          go_wp2_with fail
          go_ret
          exact ⟨rfl, hu.trans (hu1.trans hu2)⟩
        | false =>
          have HN : Hid (vputs L = putAll L) := Lib.hid (by
            have := HBB.out
            symm at this
            rw [decide_eq_false_iff_not, Classical.not_not] at this
            rw [putAll_all L this])
          obtain ⟨B5, d5, rfl, hr5⟩ := ho.rd
          go_wp2_with fail
          refine (varKnown_calls wr).mono ?_
          rintro e w1 ⟨rfl, hu1⟩
          go_wp2_with fail
          refine (varPut_n (hl2.up (hu.trans hu1)) (by omega) (by have := HQ2.out; split at hq2 <;> omega)).mono ?_
          rw [HN.out]
          rintro e w2 ⟨v2, rfl, hv2, hu2⟩
          obtain ⟨B2, d2, rfl, hr2⟩ := hv2.rd
          go_wp2_with fail
          refine (refSame_eq hr2 ((hr5.up hu1).up hu2) rfl rfl rfl).mono ?_
          rintro e w3 ⟨rfl, hq3⟩
          go_wp2_with fail
          go_ret
          exact ⟨rfl, hu.trans (hu1.trans (hu2.trans hq3.up))⟩
    · have hL : l.take k = l.take 12 := by
        rcases Nat.le_total l.length 12 with h | h
        · rw [List.take_of_length_le (by omega), List.take_of_length_le (by omega)]
        · congr 1; omega
      rw [hL] at ho HBB
      rw [hL2] at ho HBB
      clear hL hL2
      have hU := hu
      cases B with
      | true =>
        have HN : Hid (vputs L = []) := Lib.hid (by
          have := HBB.out
          symm at this
          rw [decide_eq_true_iff] at this
          unfold vputs
          rw [if_neg this])
        go_wp2_with fail
        refine (varKnown_calls wr).mono ?_
        rintro e w1 ⟨rfl, hu1⟩
        go_wp2_with fail
        refine (varPut_n (hl2.up (hu.trans hu1)) (by omega) (by have := HQ2.out; split at hq2 <;> omega)).mono ?_
        rw [HN.out]
        rintro e w2 ⟨v2, rfl, hv2, hu2⟩
        obtain ⟨B2, d2, rfl, hr2⟩ := hv2.rd
        go_wp2_with fail
        go_ret
        exact ⟨rfl, hu.trans (hu1.trans hu2)⟩
      | false =>
        have HN : Hid (vputs L = putAll L) := Lib.hid (by
          have := HBB.out
          symm at this
          rw [decide_eq_false_iff_not, Classical.not_not] at this
          rw [putAll_all L this])
        obtain ⟨B5, d5, rfl, hr5⟩ := ho.rd
        go_wp2_with fail
        refine (varKnown_calls wr).mono ?_
        rintro e w1 ⟨rfl, hu1⟩
        go_wp2_with fail
        refine (varPut_n (hl2.up (hu.trans hu1)) (by omega) (by have := HQ2.out; split at hq2 <;> omega)).mono ?_
        rw [HN.out]
        rintro e w2 ⟨v2, rfl, hv2, hu2⟩
        obtain ⟨B2, d2, rfl, hr2⟩ := hv2.rd
        go_wp2_with fail
        refine (refSame_eq hr2 ((hr5.up hu1).up hu2) rfl rfl rfl).mono ?_
        rintro e w3 ⟨rfl, hq3⟩
        go_wp2_with fail
        go_ret
        exact ⟨rfl, hu.trans (hu1.trans (hu2.trans hq3.up))⟩
end Go.Proofs.Ythnkebihpmggbaa
