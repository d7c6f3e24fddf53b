/- VarintLists: the law's walk. -/
import Derived.Test.YthnkebihpmggbaaVarGetL
namespace Go.Proofs.Ythnkebihpmggbaa
open Go.RowKit
set_option maxRecDepth 100000

theorem gl_puts (W b : List Int) (l : List Int) (hl : ∀ x ∈ l, 0 ≤ x ∧ x ≤ 9223372036854775807) : ∀ acc p, W.drop p = (l.map (fun x => vput x.toNat)).flatten ++ b → gl W l.length acc p = (acc ++ l, p + ((l.map (fun x => vput x.toNat)).flatten).length, 0) := by
  induction l with
  | nil => intro acc p h; simp [gl]
  | cons x t ih =>
    intro acc p h
    have hx := hl x (by simp)
    obtain ⟨y, rfl⟩ := Int.eq_ofNat_of_zero_le hx.1
    rw [List.map_cons, List.flatten_cons, Int.toNat_natCast, List.append_assoc] at h
    have hv := vget_vput 9223372036854775807 ((t.map (fun x => vput x.toNat)).flatten ++ b) (by omega) y (by omega)
    rw [← h] at hv
    rw [List.length_cons, gl_ok W t.length acc p y _ hv, ih (fun z hz => hl z (by simp [hz])) _ _ (by rw [← List.drop_drop, h, List.drop_left])]
    simp
    omega

theorem glist_puts (l b : List Int) (hl : ∀ x ∈ l, 0 ≤ x ∧ x ≤ 9223372036854775807) (hn : l.length ≤ 65536) : glist (vput l.length ++ vputs l ++ b) = (l, b, 0) := by
  have hv := vget_vput 9223372036854775807 (vputs l ++ b) (by omega) l.length (by omega)
  rw [← List.append_assoc] at hv
  have hs := vputs_some l fun x hx => (hl x hx).1
  have hg := gl_puts (vput l.length ++ vputs l ++ b) b l hl [] (vput l.length).length (by rw [List.append_assoc, List.drop_left, hs])
  rw [glist_of hv, hg]
  simp only [ne_eq, not_true_eq_false, if_false]
  rw [if_neg (by omega), List.nil_append, ← hs, ← List.length_append, List.drop_left]

set_option maxHeartbeats 8000000 in
theorem lawVarintLists_calls (A : Option Addr) (c : Nat) (l0 : List Int) (A2 : Option Addr) (c2 : Nat) (b0 : List Int) (w : World) (h1 : Rd w .i64 A c l0) (h2 : Rd w .u8 A2 c2 b0) :
    Calls Try.prog 8 #[.slice A l0.length c, .slice A2 b0.length c2] w fun e w' => e = .returned (.bool true) ∧ Up w w' := by
  have hlen := h1.len
  have hlen2 := h2.len
  obtain ⟨q, hq, hqc, hq3, HQ, hb⟩ := min_of h2 80
  rw [show ((80 : Nat) : Int) = 80 from rfl] at hq hq3
  generalize hB : b0.take 80 = b at *
  clear hB
  have hqb : q = b.length := HQ.out
  subst hqb
  obtain ⟨q2, hq2, hqc2, hq23, HQ2, hl⟩ := min_of h1 20
  rw [show ((20 : Nat) : Int) = 20 from rfl] at hq2 hq23
  generalize hB : l0.take 20 = l at *
  clear hB
  have hql : q2 = l.length := HQ2.out
  subst hql
  clear HQ HQ2
  go_enter Try.func8, Try.ntmps8
  go_wp2_with fail
  go_quiet (fail)
  have hw0 : Up w (w.drewN nq) := (Up.refl w).drewN _
  have hl0 := hl.up hw0
  have hb0 := hb.up hw0
  generalize w.drewN nq = w0 at *
  clear hlen hlen2 hq hq2 h1 h2
  by_cases hall : ∀ x ∈ l, 0 ≤ x
  · have HR := Lib.hid hall
    clear hall
    have HP1 := Lib.hid (show (vput l.length ++ vputs l).length ≤ 300 by
      have a1 := vput_len10 l.length (by omega)
      have a2 := vputs_len l hl.wf
      rw [List.length_append]
      omega)
    have HGP := Lib.hid (glist_puts l b (fun x hx => ⟨HR.out x hx, (hl.wf x hx).i64.2⟩) (by omega))
    go_wp2_with fail
    refine (varList_pos A c l w0 hl0 (by omega) HR.out).mono ?_
    have hrefl := fun w' h => ref2List_calls A c l w' h (by omega) HR.out
    generalize hP : vput l.length ++ vputs l = P at *
    clear hP
    rintro e w1 ⟨v1, rfl, hv1, hu1⟩
    have hlt1 := hv1.lt
    have hv1' := hv1
    obtain ⟨B1, d1, rfl, hr1⟩ := hv1'.rd
    go_wp2_with fail
    go_loopw [6, 7] (fun r i wr => ∃ k : Nat, k ≤ l.length ∧ i = .int .i64 k ∧ r = .bool true ∧ w1 = wr) (fun _ i _ => l.length - (intOf i).toNat)
    case atStart => exact ⟨0, by omega, rfl, rfl, rfl⟩
    case round =>
      obtain ⟨k, hk, rfl, rfl, rfl⟩ := hrel
      by_cases hlt : k < l.length
      · obtain ⟨ad, x, rfl, hcell, HX, hxr⟩ := (hl0.up hu1).get k hlt
        have h0 : 0 ≤ x := by
          have := HR.out (l.getD k 0) (by rw [List.getD_eq_getElem?_getD, List.getElem?_eq_getElem hlt]; exact List.getElem_mem hlt)
          rwa [HX.out] at this
        go_wp2_with fail
        go_roundw
        case rel => exact ⟨k + 1, by omega, by simp, rfl, trivial⟩
        case measure => simp [intOf]; omega
      · go_wp2_with fail
        refine (hrefl w1 (hl0.up hu1)).mono ?_
        rintro e w2 ⟨v2, rfl, hv2, hu2⟩
        obtain ⟨B2, d2, rfl, hr2⟩ := hv2.rd
        go_wp2_with fail
        refine (refSame_eq (hr1.up hu2) hr2 rfl rfl rfl).mono ?_
        rintro e w3 ⟨rfl, hq3b⟩
        have hw3 : Up w w3 := hw0.trans (hu1.trans (hu2.trans hq3b.up))
        have hv3 := (hv1.up hu2).up hq3b.up
        go_wp2_with (refine wpl_append (t := 23) w0.heap.size 5 .u8 1 Try.underlying23 infoU8 (.slice B1 P.length d1) P rfl hv3 A2 _ c2 b rfl rfl (hb.up hw3) (by have := HP1.out; omega) (by decide) (hu1.trans (hu2.trans hq3b.up)).size ?_
                     intro v4 w4 hv4 hu4 _
                     have hw4 : Up w w4 := hw3.thenx hu4 fun i hi e => by have := (hlt1 i e).1; have := hw0.size; omega)
        obtain ⟨B4, d4, rfl, hr4⟩ := hv4.rd
        refine (varGetList_calls _ _ _ w4 hr4 (by rw [List.length_append]; have := HP1.out; omega)).mono ?_
        rw [HGP.out]
        intro e w5 hp
        obtain ⟨v5, v6, rfl, hv5, hv6, hu5⟩ := hp.out
        obtain ⟨B5, d5, rfl, hr5⟩ := hv5.rd
        obtain ⟨B6, d6, rfl, hr6⟩ := hv6.rd
        clear hp
        have hw5 := hw4.trans hu5
        simp only at hr5 hr6 ⊢
        go_wp2_with fail
        refine (refSame_eq hr6 (hb.up hw5) rfl rfl rfl).mono ?_
        rintro e w6 ⟨rfl, hq6⟩
        have hw6 := hw5.trans hq6.up
        have hr5b := hr5.up hq6.up
        clear hv5 hv6 hv1 hv1' hv2 hv3 hv4 hlt1 hr1 hr2 hr4 hr5 hr6 hu4 hrefl HGP
        go_wp2_with fail
        go_loopw [11] (fun i wr => ∃ k : Nat, k ≤ l.length ∧ i = .int .i64 k ∧ Up w6 wr) (fun i _ => l.length - (intOf i).toNat)
        case atStart => exact ⟨0, by omega, rfl, Up.refl _⟩
        case round =>
          obtain ⟨k, hk, rfl, hu7⟩ := hrel
          by_cases hlt : k < l.length
          · obtain ⟨ad, x, rfl, hcell, HX, hxr⟩ := (hl.up (hw6.trans hu7)).get k hlt
            obtain ⟨ad2, x2, rfl, hcell2, HX2, hxr2⟩ := (hr5b.up hu7).get k hlt
            have hxx : x2 = x := HX2.out.symm.trans HX.out
            subst hxx
            go_wp2_with fail
            go_quiet (fail)
            go_wp2_with fail
            go_roundw
            case rel => exact ⟨k + 1, by omega, by simp, hu7.drewN _⟩
            case measure => simp [intOf]; omega
          · generalize hwt : wr = wt at *
            have hwt2 := hw6.trans hu7
            have hbt := hb.up hwt2
            clear hwt
            have hvat := vget_at 9223372036854775807 b 0 0
            have hvle := vget_le 9223372036854775807 b 0 0
            generalize hr : vget 9223372036854775807 b 0 0 = r at *
            obtain ⟨m, j, f⟩ := r
            simp only [Nat.zero_add] at hvat hvle
            have HVR := Lib.hid hr
            have HTG := Lib.hid (glist_of hr)
            clear hr
            go_wp2_with fail
            refine (varGetList_calls A2 c2 b wt hbt (by omega)).mono ?_
            intro e w8 hp
            obtain ⟨v3, v4, rfl, hv3, hv4, hu8⟩ := hp.out
            clear hp
            have hb8 := hbt.up hu8
            have hw8 := hwt2.trans hu8
            by_cases hf : f = 0
            · subst hf
              have HTG2 := Lib.hid (HTG.out.trans (if_neg (by omega)))
              clear HTG
              by_cases hbig : 65536 < m
              · rw [HTG2.out.trans (if_pos hbig)] at hv3 hv4 ⊢
                clear HTG2
                obtain ⟨B3, d3, rfl, hr3⟩ := hv3.rd
                obtain ⟨B4, d4, rfl, hr4⟩ := hv4.rd
                go_wp2_with fail
                refine (ref2Get_zero A2 c2 9223372036854775807 b w8 hb8 (by omega) (by omega)).mono ?_
                rw [HVR.out]
                rintro e w9 ⟨rfl, rfl⟩
                go_wp2_with fail
                go_loopw [16, 17, 18, 19, 20, 21, 22] (fun at_ e want i _ _ _ wx => at_ = .int .i64 j ∧ e = .int .i64 2 ∧ want = .slice none 0 0 ∧ i = .int .u64 0 ∧ w8 = wx) (fun _ _ _ _ _ _ _ _ => 0)
                case atStart => exact ⟨rfl, rfl, rfl, rfl, rfl⟩
                case round =>
                  obtain ⟨rfl, rfl, rfl, rfl, rfl⟩ := hrel
                  go_wp2_with fail
                  refine (varKnown_calls w8).mono ?_
                  rintro e w9 ⟨rfl, hu9⟩
                  go_wp2_with fail
                  go_ret
                  exact ⟨rfl, hw8.trans hu9⟩
              · have HTG3 := Lib.hid (HTG2.out.trans (if_neg hbig))
                clear HTG2
                generalize glist b = G at *
                obtain ⟨g1, g2, g3⟩ := G
                simp only at hv3 hv4 ⊢
                obtain ⟨B3, d3, rfl, hr3⟩ := hv3.rd
                obtain ⟨B4, d4, rfl, hr4⟩ := hv4.rd
                clear hv3 hv4
                have hbig2 : (m : Int) ≤ 65536 := by omega
                go_wp2_with fail
                refine (ref2Get_zero A2 c2 9223372036854775807 b w8 hb8 (by omega) (by omega)).mono ?_
                rw [HVR.out]
                rintro e w9 ⟨rfl, rfl⟩
                have hg1l := hr3.len
                have hg2l := hr4.len
                go_wp2_with fail
                go_loopw [16, 17, 18, 19, 20, 21, 22] (fun at_ e want i _ _ _ wx => ∃ (k : Nat) (acc : List Int) (p f : Nat), k ≤ m ∧ at_ = .int .i64 p ∧ e = .int .i64 f ∧ i = .int .u64 k ∧ Own wx w8.heap.size 3 .i64 want acc ∧ Up w8 wx ∧ p ≤ b.length ∧ acc.length ≤ 65537 ∧ Hid (acc.length ≤ k) ∧ Hid ((f = 0 ∧ gl b m [] j = gl b (m - k) acc p) ∨ (f ≠ 0 ∧ gl b m [] j = (acc, p, f)))) (fun _ _ _ i _ _ _ _ => m - (intOf i).toNat)
                case atStart => exact ⟨0, [], j, 0, by omega, rfl, rfl, rfl, Own.nil _ _ _ _, Up.refl _, by omega, by simp, Lib.hid (by simp), Lib.hid (.inl ⟨rfl, rfl⟩)⟩
                case round =>
                  obtain ⟨k, acc, p, f, hk, rfl, rfl, rfl, ho, hu, hpl, hal, HAK, HG⟩ := hrel
                  by_cases hf : f = 0
                  · subst hf
                    have HG1 : Hid (gl b m [] j = gl b (m - k) acc p) := Lib.hid (by
                      rcases HG.out with h | h
                      · exact h.2
                      · exact absurd rfl h.1)
                    clear HG
                    by_cases hlt : k < m
                    · go_wp2_with fail
                      refine (ref2Get_calls A2 c2 p 9223372036854775807 b wr (hb8.up hu) hpl (by omega) (by omega)).mono ?_
                      have hle2 := vget_le 9223372036854775807 (b.drop p) 0 0
                      have hat2 := vget_at 9223372036854775807 (b.drop p) 0 0
                      generalize hr : vget 9223372036854775807 (b.drop p) 0 0 = r at *
                      obtain ⟨m2, j2, f2⟩ := r
                      simp only [Nat.zero_add, List.length_drop] at hle2 hat2 ⊢
                      have HVQ := Lib.hid hr
                      clear hr
                      rintro e w9 ⟨rfl, rfl⟩
                      have hm2 := InK.of_i64 (x := (m2 : Int)) (by omega) (by omega)
                      have hakk : acc.length ≤ k := HAK.out
                      have hlo := ho.lt
                      go_wp2_with (refine wpl_push_int (t := 38) w8.heap.size 3 .i64 8 Try.underlying38 infoInt u18 acc (m2 : Int) rfl hm2 (fun _ => rfl) (fun _ => rfl) ho (by omega) (by decide) hu.size ?_
                                   intro v9 w9 hv9 hu9)
                      have hu9' : Up w8 w9 := hu.thenx hu9 fun i hi e => by have := (hlo i e).1; omega
                      go_roundw
                      case rel =>
                        refine ⟨k + 1, acc ++ [(m2 : Int)], p + j2, f2, by omega, by simp, by simp, by simp, hv9, hu9', by omega, by rw [List.length_append]; simp; omega, Lib.hid (by rw [List.length_append]; simp; omega), Lib.hid ?_⟩
                        by_cases hf2 : f2 = 0
                        · subst hf2
                          exact .inl ⟨rfl, by rw [HG1.out, show m - k = (m - (k + 1)) + 1 by omega, gl_ok b _ acc p m2 j2 HVQ.out]⟩
                        · exact .inr ⟨hf2, by rw [HG1.out, show m - k = (m - (k + 1)) + 1 by omega, gl_bad b _ acc p m2 j2 f2 HVQ.out hf2]⟩
                      case measure => simp [intOf]; omega
                    · have HE := Lib.hid (show gl b m [] j = (acc, p, 0) by rw [HG1.out, show m - k = 0 by omega]; rfl)
                      have HV2 := HTG3.out
                      rw [HE.out] at HV2
                      simp only [ne_eq, not_true_eq_false, if_false, Prod.mk.injEq] at HV2
                      obtain ⟨rfl, rfl, rfl⟩ := HV2
                      clear HTG3 HE HG1
                      obtain ⟨B9, d9, rfl, hr9⟩ := ho.rd
                      have hd := (hb8.up hu).drop_ p hpl
                      have hbc := hb.le
                      clear ho
                      obtain ⟨wo, hwo⟩ : ∃ wo : World, wo = wr := ⟨_, rfl⟩
                      rw [← hwo] at hu hr9 hd ⊢
                      clear hwo
                      by_cases hcp : c2 = p
                      · rw [if_pos hcp] at hd
                        subst hcp
                        simp only [Nat.sub_self] at hd
                        go_wp2_with fail
                        refine (refSame_eq (hr4.up hu) hd ?_ ?_ rfl).mono ?_
                        · first | rfl | (simp; done) | (simp; omega) | omega
                        · first | rfl | (simp; done) | (simp; omega) | omega
                        rintro e w10 ⟨rfl, hq10⟩
                        have hr9c := hr9.up hq10.up
                        have hr3c := (hr3.up hu).up hq10.up
                        clear hr9 hr3 hr4 hd
                        go_wp2_with fail
                        go_loopw [23] (fun i wx => ∃ k : Nat, k ≤ g1.length ∧ i = .int .i64 k ∧ Up w10 wx) (fun i _ => g1.length - (intOf i).toNat)
                        case atStart => exact ⟨0, by omega, rfl, Up.refl _⟩
                        case round =>
                          obtain ⟨k4, hk4, rfl, hu11⟩ := hrel
                          by_cases hlt4 : k4 < g1.length
                          · obtain ⟨ad, x, rfl, hcell, HX, hxr⟩ := (hr9c.up hu11).get k4 hlt4
                            obtain ⟨ad2, x2, rfl, hcell2, HX2, hxr2⟩ := (hr3c.up hu11).get k4 hlt4
                            have hxx : x2 = x := HX2.out.symm.trans HX.out
                            subst hxx
                            go_wp2_with fail
                            go_quiet (fail)
                            go_wp2_with fail
                            go_roundw
                            case rel => exact ⟨k4 + 1, by omega, by simp, hu11.drewN _⟩
                            case measure => simp [intOf]; omega
                          · go_wp2_with fail
                            refine (varKnown_calls wr).mono ?_
                            rintro e w12 ⟨rfl, hu12⟩
                            go_wp2_with fail
                            go_ret
                            exact ⟨rfl, hw8.trans (hu.trans (hq10.up.trans (hu11.trans hu12)))⟩
                      · rw [if_neg hcp] at hd
                        go_wp2_with fail
                        refine (refSame_eq (hr4.up hu) hd ?_ ?_ rfl).mono ?_
                        · first | rfl | (simp; done) | (simp; omega) | omega
                        · first | rfl | (simp; done) | (simp; omega) | omega
                        rintro e w10 ⟨rfl, hq10⟩
                        have hr9c := hr9.up hq10.up
                        have hr3c := (hr3.up hu).up hq10.up
                        clear hr9 hr3 hr4 hd
                        go_wp2_with fail
                        go_loopw [23] (fun i wx => ∃ k : Nat, k ≤ g1.length ∧ i = .int .i64 k ∧ Up w10 wx) (fun i _ => g1.length - (intOf i).toNat)
                        case atStart => exact ⟨0, by omega, rfl, Up.refl _⟩
                        case round =>
                          obtain ⟨k4, hk4, rfl, hu11⟩ := hrel
                          by_cases hlt4 : k4 < g1.length
                          · obtain ⟨ad, x, rfl, hcell, HX, hxr⟩ := (hr9c.up hu11).get k4 hlt4
                            obtain ⟨ad2, x2, rfl, hcell2, HX2, hxr2⟩ := (hr3c.up hu11).get k4 hlt4
                            have hxx : x2 = x := HX2.out.symm.trans HX.out
                            subst hxx
                            go_wp2_with fail
                            go_quiet (fail)
                            go_wp2_with fail
                            go_roundw
                            case rel => exact ⟨k4 + 1, by omega, by simp, hu11.drewN _⟩
                            case measure => simp [intOf]; omega
                          · go_wp2_with fail
                            refine (varKnown_calls wr).mono ?_
                            rintro e w12 ⟨rfl, hu12⟩
                            go_wp2_with fail
                            go_ret
                            exact ⟨rfl, hw8.trans (hu.trans (hq10.up.trans (hu11.trans hu12)))⟩
                  · have HG2 : Hid (gl b m [] j = (acc, p, f)) := Lib.hid (by
                      rcases HG.out with h | h
                      · exact absurd h.1 hf
                      · exact h.2)
                    clear HG
                    have HV2 := HTG3.out
                    rw [HG2.out] at HV2
                    simp only [ne_eq, hf, not_false_eq_true, if_true, Prod.mk.injEq] at HV2
                    obtain ⟨rfl, rfl, rfl⟩ := HV2
                    clear HTG3 HG2
                    have hfi : ¬ ((g3 : Int) = 0) := by omega
                    go_wp2_with fail
                    all_goals
                      (refine (varKnown_calls wr).mono ?_
                       rintro e w9 ⟨rfl, hu9⟩
                       go_wp2_with fail
                       go_ret
                       exact ⟨rfl, hw8.trans (hu.trans hu9)⟩)
            · rw [HTG.out.trans (if_pos hf)] at hv3 hv4 ⊢
              clear HTG
              obtain ⟨B3, d3, rfl, hr3⟩ := hv3.rd
              obtain ⟨B4, d4, rfl, hr4⟩ := hv4.rd
              have hfi : ¬ ((f : Int) = 0) := by omega
              go_wp2_with fail
              refine (ref2Get_zero A2 c2 9223372036854775807 b w8 hb8 (by omega) (by omega)).mono ?_
              rw [HVR.out]
              rintro e w9 ⟨rfl, rfl⟩
              go_wp2_with fail
              go_loopw [16, 17, 18, 19, 20, 21, 22] (fun at_ e want i _ _ _ wx => at_ = .int .i64 j ∧ e = .int .i64 f ∧ want = .slice none 0 0 ∧ i = .int .u64 0 ∧ w8 = wx) (fun _ _ _ _ _ _ _ _ => 0)
              case atStart => exact ⟨rfl, rfl, rfl, rfl, rfl⟩
              case round =>
                obtain ⟨rfl, rfl, rfl, rfl, rfl⟩ := hrel
                go_wp2_with fail
                all_goals
                  (refine (varKnown_calls w8).mono ?_
                   rintro e w9 ⟨rfl, hu9⟩
                   go_wp2_with fail
                   go_ret
                   exact ⟨rfl, hw8.trans hu9⟩)
  · have HR := Lib.hid hall
    clear hall
    go_wp2_with fail
    refine (varList_neg A c l w0 hl0 (by omega) HR.out).mono ?_
    rintro e w1 ⟨v1, rfl, hv1, hu1⟩
    obtain ⟨B1, d1, rfl, hr1⟩ := hv1.rd
    go_wp2_with fail
    go_loopw [6, 7] (fun r i wr => ∃ (k : Nat) (R : Bool), k ≤ l.length ∧ i = .int .i64 k ∧ r = .bool R ∧ w1 = wr ∧ Hid (R = decide (∀ x ∈ l.take k, 0 ≤ x))) (fun _ i _ => l.length - (intOf i).toNat)
    case atStart => exact ⟨0, true, by omega, rfl, rfl, rfl, Lib.hid (by simp)⟩
    case round =>
      obtain ⟨k, R, hk, rfl, rfl, rfl, HRR⟩ := hrel
      by_cases hlt : k < l.length
      · obtain ⟨ad, x, rfl, hcell, HX, hxr⟩ := (hl0.up hu1).get k hlt
        have HT := Lib.hid (take_succ_getD l k 0 hlt)
        cases R with
        | false =>
          go_wp2_with fail
          go_roundw
          case rel =>
            refine ⟨k + 1, false, by omega, by simp, rfl, trivial, Lib.hid ?_⟩
            have := HRR.out
            symm at this ⊢
            rw [decide_eq_false_iff_not] at this ⊢
            intro h
            exact this fun y hy => h y (by rw [HT.out]; exact List.mem_append_left _ hy)
          case measure => simp [intOf]; omega
        | true =>
          go_wp2_with fail
          all_goals
            (go_roundw
             case rel =>
               refine ⟨k + 1, decide (0 ≤ x), by omega, by simp, by simp; try assumption, trivial, Lib.hid ?_⟩
               have := HRR.out
               symm at this
               rw [decide_eq_true_iff] at this
               rw [decide_eq_decide, HT.out, HX.out]
               constructor
               · intro h y hy
                 rcases List.mem_append.1 hy with h3 | h3
                 · exact this y h3
                 · simp only [List.mem_cons, List.not_mem_nil, or_false] at h3
                   omega
               · intro h
                 exact h x (by simp)
             case measure => simp [intOf]; omega)
      · have hRf : R = false := by
          rw [HRR.out, decide_eq_false_iff_not]
          intro h
          rw [List.take_of_length_le (by omega)] at h
          exact HR.out h
        subst hRf
        have hwt2 := hw0.trans hu1
        have hbt := hb.up hwt2
        generalize hwt : w1 = wt at *
        clear hwt
        have hvat := vget_at 9223372036854775807 b 0 0
        have hvle := vget_le 9223372036854775807 b 0 0
        generalize hr : vget 9223372036854775807 b 0 0 = r at *
        obtain ⟨m, j, f⟩ := r
        simp only [Nat.zero_add] at hvat hvle
        have HVR := Lib.hid hr
        have HTG := Lib.hid (glist_of hr)
        clear hr
        go_wp2_with fail
        refine (varGetList_calls A2 c2 b wt hbt (by omega)).mono ?_
        intro e w8 hp
        obtain ⟨v3, v4, rfl, hv3, hv4, hu8⟩ := hp.out
        clear hp
        have hb8 := hbt.up hu8
        have hw8 := hwt2.trans hu8
        by_cases hf : f = 0
        · subst hf
          have HTG2 := Lib.hid (HTG.out.trans (if_neg (by omega)))
          clear HTG
          by_cases hbig : 65536 < m
          · rw [HTG2.out.trans (if_pos hbig)] at hv3 hv4 ⊢
            clear HTG2
            obtain ⟨B3, d3, rfl, hr3⟩ := hv3.rd
            obtain ⟨B4, d4, rfl, hr4⟩ := hv4.rd
            go_wp2_with fail
            refine (ref2Get_zero A2 c2 9223372036854775807 b w8 hb8 (by omega) (by omega)).mono ?_
            rw [HVR.out]
            rintro e w9 ⟨rfl, rfl⟩
            go_wp2_with fail
            go_loopw [16, 17, 18, 19, 20, 21, 22] (fun at_ e want i _ _ _ wx => at_ = .int .i64 j ∧ e = .int .i64 2 ∧ want = .slice none 0 0 ∧ i = .int .u64 0 ∧ w8 = wx) (fun _ _ _ _ _ _ _ _ => 0)
            case atStart => exact ⟨rfl, rfl, rfl, rfl, rfl⟩
            case round =>
              obtain ⟨rfl, rfl, rfl, rfl, rfl⟩ := hrel
              go_wp2_with fail
              refine (varKnown_calls w8).mono ?_
              rintro e w9 ⟨rfl, hu9⟩
              go_wp2_with fail
              go_ret
              exact ⟨rfl, hw8.trans hu9⟩
          · have HTG3 := Lib.hid (HTG2.out.trans (if_neg hbig))
            clear HTG2
            generalize glist b = G at *
            obtain ⟨g1, g2, g3⟩ := G
            simp only at hv3 hv4 ⊢
            obtain ⟨B3, d3, rfl, hr3⟩ := hv3.rd
            obtain ⟨B4, d4, rfl, hr4⟩ := hv4.rd
            clear hv3 hv4
            have hbig2 : (m : Int) ≤ 65536 := by omega
            go_wp2_with fail
            refine (ref2Get_zero A2 c2 9223372036854775807 b w8 hb8 (by omega) (by omega)).mono ?_
            rw [HVR.out]
            rintro e w9 ⟨rfl, rfl⟩
            have hg1l := hr3.len
            have hg2l := hr4.len
            go_wp2_with fail
            go_loopw [16, 17, 18, 19, 20, 21, 22] (fun at_ e want i _ _ _ wx => ∃ (k : Nat) (acc : List Int) (p f : Nat), k ≤ m ∧ at_ = .int .i64 p ∧ e = .int .i64 f ∧ i = .int .u64 k ∧ Own wx w8.heap.size 3 .i64 want acc ∧ Up w8 wx ∧ p ≤ b.length ∧ acc.length ≤ 65537 ∧ Hid (acc.length ≤ k) ∧ Hid ((f = 0 ∧ gl b m [] j = gl b (m - k) acc p) ∨ (f ≠ 0 ∧ gl b m [] j = (acc, p, f)))) (fun _ _ _ i _ _ _ _ => m - (intOf i).toNat)
            case atStart => exact ⟨0, [], j, 0, by omega, rfl, rfl, rfl, Own.nil _ _ _ _, Up.refl _, by omega, by simp, Lib.hid (by simp), Lib.hid (.inl ⟨rfl, rfl⟩)⟩
            case round =>
              obtain ⟨k, acc, p, f, hk, rfl, rfl, rfl, ho, hu, hpl, hal, HAK, HG⟩ := hrel
              by_cases hf : f = 0
              · subst hf
                have HG1 : Hid (gl b m [] j = gl b (m - k) acc p) := Lib.hid (by
                  rcases HG.out with h | h
                  · exact h.2
                  · exact absurd rfl h.1)
                clear HG
                by_cases hlt : k < m
                · go_wp2_with fail
                  refine (ref2Get_calls A2 c2 p 9223372036854775807 b wr (hb8.up hu) hpl (by omega) (by omega)).mono ?_
                  have hle2 := vget_le 9223372036854775807 (b.drop p) 0 0
                  have hat2 := vget_at 9223372036854775807 (b.drop p) 0 0
                  generalize hr : vget 9223372036854775807 (b.drop p) 0 0 = r at *
                  obtain ⟨m2, j2, f2⟩ := r
                  simp only [Nat.zero_add, List.length_drop] at hle2 hat2 ⊢
                  have HVQ := Lib.hid hr
                  clear hr
                  rintro e w9 ⟨rfl, rfl⟩
                  have hm2 := InK.of_i64 (x := (m2 : Int)) (by omega) (by omega)
                  have hakk : acc.length ≤ k := HAK.out
                  have hlo := ho.lt
                  go_wp2_with (refine wpl_push_int (t := 38) w8.heap.size 3 .i64 8 Try.underlying38 infoInt u18 acc (m2 : Int) rfl hm2 (fun _ => rfl) (fun _ => rfl) ho (by omega) (by decide) hu.size ?_
                               intro v9 w9 hv9 hu9)
                  have hu9' : Up w8 w9 := hu.thenx hu9 fun i hi e => by have := (hlo i e).1; omega
                  go_roundw
                  case rel =>
                    refine ⟨k + 1, acc ++ [(m2 : Int)], p + j2, f2, by omega, by simp, by simp, by simp, hv9, hu9', by omega, by rw [List.length_append]; simp; omega, Lib.hid (by rw [List.length_append]; simp; omega), Lib.hid ?_⟩
                    by_cases hf2 : f2 = 0
                    · subst hf2
                      exact .inl ⟨rfl, by rw [HG1.out, show m - k = (m - (k + 1)) + 1 by omega, gl_ok b _ acc p m2 j2 HVQ.out]⟩
                    · exact .inr ⟨hf2, by rw [HG1.out, show m - k = (m - (k + 1)) + 1 by omega, gl_bad b _ acc p m2 j2 f2 HVQ.out hf2]⟩
                  case measure => simp [intOf]; omega
                · have HE := Lib.hid (show gl b m [] j = (acc, p, 0) by rw [HG1.out, show m - k = 0 by omega]; rfl)
                  have HV2 := HTG3.out
                  rw [HE.out] at HV2
                  simp only [ne_eq, not_true_eq_false, if_false, Prod.mk.injEq] at HV2
                  obtain ⟨rfl, rfl, rfl⟩ := HV2
                  clear HTG3 HE HG1
                  obtain ⟨B9, d9, rfl, hr9⟩ := ho.rd
                  have hd := (hb8.up hu).drop_ p hpl
                  have hbc := hb.le
                  clear ho
                  obtain ⟨wo, hwo⟩ : ∃ wo : World, wo = wr := ⟨_, rfl⟩
                  rw [← hwo] at hu hr9 hd ⊢
                  clear hwo
                  by_cases hcp : c2 = p
                  · rw [if_pos hcp] at hd
                    subst hcp
                    simp only [Nat.sub_self] at hd
                    go_wp2_with fail
                    refine (refSame_eq (hr4.up hu) hd ?_ ?_ rfl).mono ?_
                    · first | rfl | (simp; done) | (simp; omega) | omega
                    · first | rfl | (simp; done) | (simp; omega) | omega
                    rintro e w10 ⟨rfl, hq10⟩
                    have hr9c := hr9.up hq10.up
                    have hr3c := (hr3.up hu).up hq10.up
                    clear hr9 hr3 hr4 hd
                    go_wp2_with fail
                    go_loopw [23] (fun i wx => ∃ k : Nat, k ≤ g1.length ∧ i = .int .i64 k ∧ Up w10 wx) (fun i _ => g1.length - (intOf i).toNat)
                    case atStart => exact ⟨0, by omega, rfl, Up.refl _⟩
                    case round =>
                      obtain ⟨k4, hk4, rfl, hu11⟩ := hrel
                      by_cases hlt4 : k4 < g1.length
                      · obtain ⟨ad, x, rfl, hcell, HX, hxr⟩ := (hr9c.up hu11).get k4 hlt4
                        obtain ⟨ad2, x2, rfl, hcell2, HX2, hxr2⟩ := (hr3c.up hu11).get k4 hlt4
                        have hxx : x2 = x := HX2.out.symm.trans HX.out
                        subst hxx
                        go_wp2_with fail
                        go_quiet (fail)
                        go_wp2_with fail
                        go_roundw
                        case rel => exact ⟨k4 + 1, by omega, by simp, hu11.drewN _⟩
                        case measure => simp [intOf]; omega
                      · go_wp2_with fail
                        refine (varKnown_calls wr).mono ?_
                        rintro e w12 ⟨rfl, hu12⟩
                        go_wp2_with fail
                        go_ret
                        exact ⟨rfl, hw8.trans (hu.trans (hq10.up.trans (hu11.trans hu12)))⟩
                  · rw [if_neg hcp] at hd
                    go_wp2_with fail
                    refine (refSame_eq (hr4.up hu) hd ?_ ?_ rfl).mono ?_
                    · first | rfl | (simp; done) | (simp; omega) | omega
                    · first | rfl | (simp; done) | (simp; omega) | omega
                    rintro e w10 ⟨rfl, hq10⟩
                    have hr9c := hr9.up hq10.up
                    have hr3c := (hr3.up hu).up hq10.up
                    clear hr9 hr3 hr4 hd
                    go_wp2_with fail
                    go_loopw [23] (fun i wx => ∃ k : Nat, k ≤ g1.length ∧ i = .int .i64 k ∧ Up w10 wx) (fun i _ => g1.length - (intOf i).toNat)
                    case atStart => exact ⟨0, by omega, rfl, Up.refl _⟩
                    case round =>
                      obtain ⟨k4, hk4, rfl, hu11⟩ := hrel
                      by_cases hlt4 : k4 < g1.length
                      · obtain ⟨ad, x, rfl, hcell, HX, hxr⟩ := (hr9c.up hu11).get k4 hlt4
                        obtain ⟨ad2, x2, rfl, hcell2, HX2, hxr2⟩ := (hr3c.up hu11).get k4 hlt4
                        have hxx : x2 = x := HX2.out.symm.trans HX.out
                        subst hxx
                        go_wp2_with fail
                        go_quiet (fail)
                        go_wp2_with fail
                        go_roundw
                        case rel => exact ⟨k4 + 1, by omega, by simp, hu11.drewN _⟩
                        case measure => simp [intOf]; omega
                      · go_wp2_with fail
                        refine (varKnown_calls wr).mono ?_
                        rintro e w12 ⟨rfl, hu12⟩
                        go_wp2_with fail
                        go_ret
                        exact ⟨rfl, hw8.trans (hu.trans (hq10.up.trans (hu11.trans hu12)))⟩
              · have HG2 : Hid (gl b m [] j = (acc, p, f)) := Lib.hid (by
                  rcases HG.out with h | h
                  · exact absurd h.1 hf
                  · exact h.2)
                clear HG
                have HV2 := HTG3.out
                rw [HG2.out] at HV2
                simp only [ne_eq, hf, not_false_eq_true, if_true, Prod.mk.injEq] at HV2
                obtain ⟨rfl, rfl, rfl⟩ := HV2
                clear HTG3 HG2
                have hfi : ¬ ((g3 : Int) = 0) := by omega
                go_wp2_with fail
                all_goals
                  (refine (varKnown_calls wr).mono ?_
                   rintro e w9 ⟨rfl, hu9⟩
                   go_wp2_with fail
                   go_ret
                   exact ⟨rfl, hw8.trans (hu.trans hu9)⟩)
        · rw [HTG.out.trans (if_pos hf)] at hv3 hv4 ⊢
          clear HTG
          obtain ⟨B3, d3, rfl, hr3⟩ := hv3.rd
          obtain ⟨B4, d4, rfl, hr4⟩ := hv4.rd
          have hfi : ¬ ((f : Int) = 0) := by omega
          go_wp2_with fail
          refine (ref2Get_zero A2 c2 9223372036854775807 b w8 hb8 (by omega) (by omega)).mono ?_
          rw [HVR.out]
          rintro e w9 ⟨rfl, rfl⟩
          go_wp2_with fail
          go_loopw [16, 17, 18, 19, 20, 21, 22] (fun at_ e want i _ _ _ wx => at_ = .int .i64 j ∧ e = .int .i64 f ∧ want = .slice none 0 0 ∧ i = .int .u64 0 ∧ w8 = wx) (fun _ _ _ _ _ _ _ _ => 0)
          case atStart => exact ⟨rfl, rfl, rfl, rfl, rfl⟩
          case round =>
            obtain ⟨rfl, rfl, rfl, rfl, rfl⟩ := hrel
            go_wp2_with fail
            all_goals
              (refine (varKnown_calls w8).mono ?_
               rintro e w9 ⟨rfl, hu9⟩
               go_wp2_with fail
               go_ret
               exact ⟨rfl, hw8.trans hu9⟩)
end Go.Proofs.Ythnkebihpmggbaa
