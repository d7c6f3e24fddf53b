/- VarintFixed: the law's walk. -/
import Derived.Test.YthnkebihpmggbaaVarFixW
import Derived.Test.YthnkebihpmggbaaVarPuts
namespace Go.Proofs.Ythnkebihpmggbaa
open Go.RowKit
set_option maxRecDepth 100000

set_option maxHeartbeats 1000000 in
theorem varFixed_bad (x s : Int) (w : World) (hx : InK .i64 x) (hs : InK .i64 s) (hbad : s < 0 ∨ 8 < s) :
    Calls Try.prog 36 #[.int .i64 x, .int .i64 s] w fun e w' => e = .returned (.slice none 0 0) ∧ w = w' := by
  have hx2 := hx.i64
  have hs2 := hs.i64
  go_enter Try.func36, Try.ntmps36
  go_wp2_with fail
  all_goals
    (go_ret
     exact ⟨rfl, rfl⟩)

/-- The part behind the bytes of n: the reading of b. -/
theorem u_of (x : Int) : ∃ u : Nat, IntKind.u64.wrap x = (u : Int) ∧ u < 18446744073709551616 := by
  have e : IntKind.u64.wrap x = x % 18446744073709551616 := by simp [IntKind.wrap, IntKind.bits, IntKind.signed]
  refine ⟨(x % 18446744073709551616).toNat, ?_, ?_⟩
  · rw [e]; omega
  · omega

set_option maxHeartbeats 4000000 in
theorem lawVarintFixed_bad (x s : Int) (A2 : Option Addr) (c2 : Nat) (b0 : List Int) (w : World) (hx : InK .i64 x) (hs : InK .i64 s) (h2 : Rd w .u8 A2 c2 b0) (hbad : s < 0 ∨ 8 < s) :
    Calls Try.prog 9 #[.int .i64 x, .int .i64 s, .slice A2 b0.length c2] w fun e w' => e = .returned (.bool true) ∧ Up w w' := by
  have hlen2 := h2.len
  have hs2 := hs.i64
  obtain ⟨q, hq, hqc, hq3, HQ, hb⟩ := min_of h2 20
  rw [show ((20 : Nat) : Int) = 20 from rfl] at hq hq3
  generalize hB : b0.take 20 = b at *
  clear hB
  have hqb : q = b.length := HQ.out
  subst hqb
  go_enter Try.func9, Try.ntmps9
  go_wp2_with fail
  refine (varFixed_bad x s w hx hs hbad).mono ?_
  rintro e w1 ⟨rfl, rfl⟩
  go_wp2_with fail
  all_goals
    (refine (varGetFixed_arg A2 c2 b s w hb hs (by omega)).mono ?_
     intro e w2 hp
     obtain ⟨v2, rfl, hv2, hu2⟩ := hp.out
     obtain ⟨B2, d2, rfl, hr2⟩ := hv2.rd
     go_wp2_with fail
     all_goals
       (refine (varKnown_calls w2).mono ?_
        rintro e w3 ⟨rfl, hu3⟩
        go_wp2_with fail
        go_ret
        exact ⟨rfl, hu2.trans hu3⟩))

set_option maxHeartbeats 4000000 in
theorem lawVarintFixed_good (x : Int) (s : Nat) (A2 : Option Addr) (c2 : Nat) (b0 : List Int) (w : World) (hs : s ≤ 8) (h2 : Rd w .u8 A2 c2 b0) :
    Calls Try.prog 9 #[.int .i64 x, .int .i64 s, .slice A2 b0.length c2] w fun e w' => e = .returned (.bool true) ∧ Up w w' := by
  have hlen2 := h2.len
  obtain ⟨q, hq, hqc, hq3, HQ, hb⟩ := min_of h2 20
  rw [show ((20 : Nat) : Int) = 20 from rfl] at hq hq3
  generalize hB : b0.take 20 = b at *
  clear hB
  have hqb : q = b.length := HQ.out
  subst hqb
  obtain ⟨u, hu, hul⟩ := u_of x
  go_enter Try.func9, Try.ntmps9
  go_wp2_with fail
  refine (varFixed_calls x u s w hu hs).mono ?_
  rintro e w1 ⟨v1, xs, rfl, hv1, hxl, HX, hu1⟩
  subst hxl
  obtain ⟨B1, d1, rfl, hr1⟩ := hv1.rd
  clear hv1
  go_wp2_with fail
  go_loopw [9, 10] (fun k i wr => ∃ j : Nat, j ≤ xs.length ∧ i = .int .i64 j ∧ k = .int .u64 (u / 2 ^ (8 * j) : Nat) ∧ w1 = wr) (fun _ i _ => xs.length - (intOf i).toNat)
  case atStart => exact ⟨0, by omega, rfl, by simp, rfl⟩
  case round =>
    obtain ⟨j, hj, rfl, rfl, rfl⟩ := hrel
    by_cases hlt : j < xs.length
    · obtain ⟨ad, y, rfl, hcell, HY, hyr⟩ := hr1.get j hlt
      have hy := HX.out j hlt
      rw [HY.out] at hy
      have HN := Lib.hid (show u / 2 ^ (8 * (j + 1)) = u / 2 ^ (8 * j) / 256 by
        rw [show 8 * (j + 1) = 8 * j + 8 by omega, Nat.pow_add, Nat.div_div_eq_div_mul])
      have hal : u / 2 ^ (8 * j) < 18446744073709551616 := Nat.lt_of_le_of_lt (Nat.div_le_self _ _) hul
      generalize u / 2 ^ (8 * j) = a at *
      have hy2 : y = (a : Int) % 256 := by omega
      subst hy2
      clear hy
      go_wp2_with fail
      go_roundw
      case rel => exact ⟨j + 1, by omega, by simp, by rw [HN.out]; simp, trivial⟩
      case measure => simp [intOf]; omega
    · clear hr1 HX
      have hb1 := hb.up hu1
      generalize hS : xs.length = S at *
      clear hS
      by_cases h0 : S = 0
      · subst h0
        go_wp2_with fail
        refine (varGetFixed_arg A2 c2 b 0 w1 hb1 (InK.of_i64 (by omega) (by omega)) (by omega)).mono ?_
        intro e w2 hp
        obtain ⟨v2, rfl, hv2, hu2⟩ := hp.out
        obtain ⟨B2, d2, rfl, hr2⟩ := hv2.rd
        go_wp2_with fail
        refine (varKnown_calls w2).mono ?_
        rintro e w3 ⟨rfl, hu3⟩
        go_wp2_with fail
        go_ret
        exact ⟨rfl, hu1.trans (hu2.trans hu3)⟩
      · have hS1 : 1 ≤ S := by omega
        by_cases hbs : b.length < S
        · go_wp2_with fail
          refine (varGetFixed_end A2 c2 b S w1 hb1 hS1 hs hbs).mono ?_
          intro e w2 hp
          obtain ⟨v2, rfl, hv2, hu2⟩ := hp.out
          obtain ⟨B2, d2, rfl, hr2⟩ := hv2.rd
          go_wp2_with fail
          refine (varKnown_calls w2).mono ?_
          rintro e w3 ⟨rfl, hu3⟩
          go_wp2_with fail
          go_ret
          exact ⟨rfl, hu1.trans (hu2.trans hu3)⟩
        · go_wp2_with fail
          refine (varGetFixed_calls A2 c2 b S w1 hb1 hS1 hs (by omega) (by omega)).mono ?_
          intro e w2 hp
          obtain ⟨v2, rfl, hv2, hu2⟩ := hp.out
          obtain ⟨B2, d2, rfl, hr2⟩ := hv2.rd
          have hb2 := hb1.up hu2
          have HTL := Lib.hid (show (b.take S).length = S by rw [List.length_take]; omega)
          have HG := Lib.hid (fun i (hi : i < S) => show (b.take S).getD i 0 = b.getD i 0 by
            rw [List.getD_eq_getElem?_getD, List.getD_eq_getElem?_getD, List.getElem?_take, if_pos hi])
          have HWF := Lib.hid (fun x (hx : x ∈ b.take S) => hb2.wf x (List.mem_of_mem_take hx))
          generalize b.take S = t at *
          go_wp2_with fail
          go_loopw [8, 14] (fun n i wx => ∃ k : Nat, k ≤ S ∧ i = .int .i64 ((k : Int) - 1) ∧ n = .int .u64 (val (t.drop k)) ∧ w2 = wx) (fun _ i _ => ((intOf i) + 1).toNat)
          case atStart => exact ⟨S, by omega, by simp, by rw [List.drop_eq_nil_of_le (by have := HTL.out; omega)]; rfl, rfl⟩
          case round =>
            obtain ⟨k, hk, rfl, rfl, rfl⟩ := hrel
            by_cases hk0 : k = 0
            · subst hk0
              rw [List.drop_zero]
              have hneg : ((0 : Nat) : Int) - 1 = -1 := by omega
              by_cases hbig : 9223372036854775807 < val t
              · rw [show fixM (val t) = 0 from if_pos hbig, show fixF (val t) = 3 from if_pos hbig]
                clear hp hv2
                generalize val t = a at *
                go_wp2_with fail
                refine (varKnown_calls w2).mono ?_
                rintro e w3 ⟨rfl, hu3⟩
                go_wp2_with fail
                go_ret
                exact ⟨rfl, hu1.trans (hu2.trans hu3)⟩
              · rw [show fixM (val t) = val t from if_neg hbig, show fixF (val t) = 0 from if_neg hbig]
                rw [show fixR (val t) (b.drop S) = b.drop S from if_neg hbig] at hr2 ⊢
                have hd := hb2.drop_ S (by omega)
                have hbc := hb.le
                clear hp hv2
                generalize val t = a at *
                by_cases hcs : c2 = S
                · rw [if_pos hcs] at hd
                  subst hcs
                  simp only [Nat.sub_self] at hd
                  go_wp2_with fail
                  refine (varKnown_calls w2).mono ?_
                  rintro e w3 ⟨rfl, hu3⟩
                  go_wp2_with fail
                  refine (refSame_eq (hr2.up hu3) (hd.up hu3) ?_ ?_ rfl).mono ?_
                  · first | rfl | (simp; done) | (simp; omega) | omega
                  · first | rfl | (simp; done) | (simp; omega) | omega
                  rintro e w4 ⟨rfl, hq4⟩
                  go_wp2_with fail
                  go_ret
                  exact ⟨rfl, hu1.trans (hu2.trans (hu3.trans hq4.up))⟩
                · rw [if_neg hcs] at hd
                  go_wp2_with fail
                  refine (varKnown_calls w2).mono ?_
                  rintro e w3 ⟨rfl, hu3⟩
                  go_wp2_with fail
                  refine (refSame_eq (hr2.up hu3) (hd.up hu3) ?_ ?_ rfl).mono ?_
                  · first | rfl | (simp; done) | (simp; omega) | omega
                  · first | rfl | (simp; done) | (simp; omega) | omega
                  rintro e w4 ⟨rfl, hq4⟩
                  go_wp2_with fail
                  go_ret
                  exact ⟨rfl, hu1.trans (hu2.trans (hu3.trans hq4.up))⟩
            · obtain ⟨i, rfl⟩ : ∃ i, k = i + 1 := ⟨k - 1, by omega⟩
              obtain ⟨ad, y, rfl, hcell, HY, hyr⟩ := hb2.get i (by omega)
              have hy2 := hyr.u8
              obtain ⟨z, rfl⟩ := Int.eq_ofNat_of_zero_le hy2.1
              have HV := Lib.hid (show val (t.drop i) = z + 256 * val (t.drop (i + 1)) by
                rw [vget_drop t i (by have := HTL.out; omega) ((HG.out i (by omega)).trans HY.out), val, Int.toNat_natCast])
              have hlt2 := val_lt (t.drop i) (fun x hx => HWF.out x (List.mem_of_mem_drop hx))
              have hp : val (t.drop i) < 18446744073709551616 := by
                have h3 : (t.drop i).length ≤ 8 := by rw [List.length_drop]; have := HTL.out; omega
                have := Nat.pow_le_pow_right (n := 2) (by omega) (show 8 * (t.drop i).length ≤ 64 by omega)
                have h4 : (2 : Nat) ^ 64 = 18446744073709551616 := by decide
                omega
              clear hlt2
              have hp2 := hp
              rw [HV.out] at hp
              generalize val (t.drop (i + 1)) = a at *
              have hi1 : ((i + 1 : Nat) : Int) - 1 = (i : Int) := by omega
              have hsum : (256 : Int) * (a : Int) + (z : Int) = (val (t.drop i) : Int) := by rw [HV.out]; omega
              go_wp2_with fail
              go_roundw
              case rel => exact ⟨i, by omega, rfl, rfl, trivial⟩
              case measure =>
                simp [intOf]
                try omega

theorem lawVarintFixed_calls (x s : Int) (A2 : Option Addr) (c2 : Nat) (b0 : List Int) (w : World) (hx : InK .i64 x) (hs : InK .i64 s) (h2 : Rd w .u8 A2 c2 b0) :
    Calls Try.prog 9 #[.int .i64 x, .int .i64 s, .slice A2 b0.length c2] w fun e w' => e = .returned (.bool true) ∧ Up w w' := by
  by_cases hbad : s < 0 ∨ 8 < s
  · exact lawVarintFixed_bad x s A2 c2 b0 w hx hs h2 hbad
  · obtain ⟨S, rfl⟩ := Int.eq_ofNat_of_zero_le (show 0 ≤ s by omega)
    exact lawVarintFixed_good x S A2 c2 b0 w (by omega) h2
end Go.Proofs.Ythnkebihpmggbaa
