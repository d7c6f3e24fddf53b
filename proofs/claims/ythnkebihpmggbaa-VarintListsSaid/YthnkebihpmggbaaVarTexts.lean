/- VarintTexts: the law's walk. -/
import Derived.Test.YthnkebihpmggbaaVarText
import Derived.Test.YthnkebihpmggbaaVarRefGet
import Derived.Test.YthnkebihpmggbaaVarPuts
namespace Go.Proofs.Ythnkebihpmggbaa
open Go.RowKit
set_option maxRecDepth 100000

def clip6 (ls : List (List Int)) : List (List Int) := (ls.take 6).map (·.take 200)
theorem clip6_upto (ls : List (List Int)) (k : Nat) (h6 : k < 6) (hk : k < ls.length) : clip6 (ls.take (k + 1)) = clip6 (ls.take k) ++ [(ls.getD k []).take 200] := by
  unfold clip6
  rw [List.take_take, List.take_take, show min 6 (k + 1) = k + 1 by omega, show min 6 k = k by omega, take_succ_getD ls k [] hk]
  simp
theorem clip6_all (ls : List (List Int)) (k : Nat) (h : k = min ls.length 6) : clip6 (ls.take k) = clip6 ls := by
  unfold clip6
  rw [List.take_take]
  congr 1
  rcases Nat.le_total ls.length 6 with h1 | h1
  · rw [List.take_of_length_le (by omega), List.take_of_length_le (by omega)]
  · congr 1; omega
theorem clip6_len (ls : List (List Int)) : (clip6 ls).length ≤ 6 := by
  unfold clip6
  simp only [List.length_map]
  exact List.length_take_le _ _
theorem texts_len (ls : List (List Int)) (h : ∀ b ∈ ls, b.length ≤ 200) : (texts ls).length ≤ 210 * ls.length := by
  induction ls with
  | nil => simp [texts]
  | cons b t ih =>
    have h1 := h b (by simp)
    have h2 := vput_len10 b.length (by omega)
    have h3 := ih fun x hx => h x (by simp [hx])
    have e : texts (b :: t) = vput b.length ++ b ++ texts t := by simp [texts]
    rw [e, List.length_append, List.length_append, List.length_cons]
    omega
theorem clip6_texts (ls : List (List Int)) : (texts (clip6 ls)).length ≤ 1260 := by
  have h := texts_len (clip6 ls) (by
    unfold clip6
    intro b hb
    obtain ⟨x, _, rfl⟩ := List.mem_map.1 hb
    exact List.length_take_le _ _)
  have := clip6_len ls
  omega
theorem tget_texts (s : List Int) (t : List (List Int)) (h : s.length ≤ 9223372036854775807) : tget (texts (s :: t)) = (s, texts t, 0) := by
  have e : texts (s :: t) = vput s.length ++ (s ++ texts t) := by simp [texts]
  rw [e, tget_of (vget_vput 9223372036854775807 _ (by omega) s.length h)]
  simp
theorem vget_at (g : Nat) (l : List Int) (i n : Nat) : (vget g l i n).2.1 ≤ i + l.length := by
  induction l generalizing i n with
  | nil => simp [vget]
  | cons c t ih =>
    rw [vget]
    split
    · simp
    · split
      · simp only [List.length_cons]; omega
      · have := ih (i + 1) (n + c.toNat % 128 * 2 ^ (7 * i))
        simp only [List.length_cons]; omega

theorem ref2Get_zero (A : Option Addr) (c gr : Nat) (l : List Int) (w : World) (h1 : Rd w .u8 A c l) (hgr : gr < 18446744073709551616) (hb : l.length ≤ 140737488355328) :
    Calls Try.prog 32 #[.slice A l.length c, .int .i64 0, .int .u64 gr] w fun e w' => e = .returned (.tuple #[.int .u64 (vget gr l 0 0).1, .int .i64 (vget gr l 0 0).2.1, .int .i64 (vget gr l 0 0).2.2]) ∧ w = w' := by
  have := ref2Get_calls A c 0 gr l w h1 (by omega) hgr hb
  simpa using this

structure TextRel (w : World) (ls : List (List Int)) (x all : Value) (k : Nat) (wr : World) : Prop where mk ::
  out : ∃ vs, OwnV wr w.heap.size 23 x vs ∧ Vals (fun b => b < w.heap.size) w .u8 vs (clip6 (ls.take k)) ∧ Own wr w.heap.size 5 .u8 all (texts (clip6 (ls.take k))) ∧ Up w wr

theorem infoBytes6 : (Try.prog.info? 23).map (fun i => (i.zero, i.size, i.bytes)) = some (some (.slice none 0 0), 1, 24) := by kernel_rfl

set_option maxHeartbeats 4000000 in
theorem lawVarintTexts_calls (A : Option Addr) (c : Nat) (ls : List (List Int)) (A2 : Option Addr) (c2 : Nat) (b0 : List Int) (w : World) (hl : RdL w .u8 A c ls) (h2 : Rd w .u8 A2 c2 b0) :
    Calls Try.prog 7 #[.slice A ls.length c, .slice A2 b0.length c2] w fun e w' => e = .returned (.bool true) ∧ Up w w' := by
  have hlen := hl.len
  have hlen2 := h2.len
  obtain ⟨q, hq, hqc, hq3, HQ, hb⟩ := min_of h2 300
  rw [show ((300 : Nat) : Int) = 300 from rfl] at hq hq3
  generalize hB : b0.take 300 = b at *
  have HB := Lib.hid hB
  clear hB
  have hbl : b.length ≤ 300 := by have := HQ.out; omega
  have HQl := Lib.hid hbl
  clear hbl
  have hqb : q = b.length := HQ.out
  subst hqb
  go_enter Try.func7, Try.ntmps7
  go_wp2_with fail
  go_loopw [5, 6, 7, 8] (fun x all i _ wr => ∃ k : Nat, k ≤ ls.length ∧ k ≤ 6 ∧ i = .int .i64 k ∧ TextRel w ls x all k wr) (fun _ _ i _ _ => 6 - (intOf i).toNat)
  case atStart => exact ⟨0, by omega, by omega, rfl, ⟨[], OwnV.nil _ _ _, Vals.nil _ _ _, Own.nil _ _ _ _, Up.refl _⟩⟩
  case round =>
    obtain ⟨k, hk, hk6, rfl, hrel⟩ := hrel
    by_cases hboth : k < ls.length ∧ k < 6
    · obtain ⟨hlt, h6⟩ := hboth
      obtain ⟨ad, s0, A', c', rfl, hcell, hrd, HL⟩ := hl.get k hlt
      obtain ⟨vs, hx, hvs, hall, hu⟩ := hrel.out
      have hll := hrd.len
      have hcell' := hu.cell hcell
      obtain ⟨m, hm, hmc, hm2, HM, hrdm⟩ := min_of hrd 200
      rw [show ((200 : Nat) : Int) = 200 from rfl] at hm hm2
      have HS := Lib.hid (clip6_upto ls k h6 hlt)
      rw [HL.out] at HS
      have hvl := hvs.len
      have hcl := clip6_len (ls.take k)
      have HTX := Lib.hid (clip6_texts (ls.take k))
      generalize hs : s0.take 200 = s at *
      clear hs
      have HSL := Lib.hid (show s.length ≤ 200 by have := HM.out; omega)
      have HPL := Lib.hid (vput_len10 s.length (by have := HSL.out; omega))
      have HT := Lib.hid (show texts (clip6 (ls.take (k + 1))) = texts (clip6 (ls.take k)) ++ (vput s.length ++ s) by rw [HS.out, texts_snoc])
      have hms : m = s.length := HM.out
      subst hms
      go_wp2
      go_quiet (fail)
      go_wp2_with (refine wpl_push (t := 22) w.heap.size 23 _ 24 Try.underlying22 infoBytes6 rfl u5 vs (.slice A' s.length c') rfl rfl (fun _ => rfl) (fun _ => rfl) (hx.up ((Qt.refl _).drewN nq).up) (by omega) (by decide) hu.size ?_
                   intro x1 w1 hx1 hu1
                   have hU1 : Up w w1 := (hu.drewN nq).thenx hu1 (fun i hi e => by have := (hx.lt i e).1; omega))
      have hall1 : Own w1 w.heap.size 5 .u8 u6 (texts (clip6 (ls.take k))) := hall.upx ((Up.refl wr).drewN nq |>.x _ |>.trans hu1) (rows_ne hall.row hx.row (by decide))
      refine (ref2Put_calls s.length w1 (by omega)).mono ?_
      rintro e w2 ⟨v2, rfl, hv2, hu2⟩
      obtain ⟨B2, d2, rfl, hr2⟩ := hv2.rd
      have hall2 := hall1.up hu2
      have hU2 := hU1.trans hu2
      go_wp2_with (first
        | (refine wpl_append (t := 23) w.heap.size 5 .u8 1 Try.underlying23 infoU8 u6 (texts (clip6 (ls.take k))) rfl hall2 B2 _ d2 (vput s.length) rfl rfl hr2 (by have := HTX.out; have := HPL.out; omega) (by decide) hU2.size ?_
           intro a3 w3 ha3 hu3 _
           have hU3 : Up w w3 := hU2.thenx hu3 (fun i hi e => by have := (hall2.lt i e).1; omega))
        | (refine wpl_append (t := 23) w.heap.size 5 .u8 1 Try.underlying23 infoU8 a3 _ rfl ha3 A' _ c' s rfl rfl (hrdm.up hU3) (by have := HTX.out; have := HPL.out; rw [List.length_append]; omega) (by decide) hU3.size ?_
           intro a4 w4 ha4 hu4 _))
      have hU4 : Up w w4 := hU3.thenx hu4 (fun i hi e => by have := (ha3.lt i e).1; omega)
      have hx2 := hx1.up hu2
      have hx3 := hx2.upx hu3 (rows_ne hx2.row hall2.row (by decide))
      have hx4 := hx3.upx hu4 (rows_ne hx3.row ha3.row (by decide))
      go_roundw
      case rel =>
        refine ⟨k + 1, by omega, by omega, by go_num, ⟨vs ++ [.slice A' s.length c'], hx4, ?_, ?_, hU4⟩⟩
        · rw [HS.out]
          exact hvs.snoc hrdm rfl hrdm.lt
        · rw [HT.out, ← List.append_assoc]
          exact ha4
      case measure => simp [intOf]; omega
    · have hke : k = min ls.length 6 := by omega
      obtain ⟨vs, hx, hvs, hall, hu⟩ := hrel.out
      rw [clip6_all ls k hke] at hvs hall
      have hCL := clip6_len ls
      have HCT := Lib.hid (clip6_texts ls)
      generalize hcl : clip6 ls = cl at *
      clear hcl
      obtain ⟨X, cx, rfl, hx1⟩ := hx.rdLF (F := fun _ => True) ((hvs.up hu).mono fun _ _ => trivial) fun _ _ => trivial
      obtain ⟨Y, cy, rfl, hy1⟩ := hall.rd
      have hxl := hx1.rd
      clear hx1 hvs hx hall
      have hd : (decide ((k : Int) < (ls.length : Int)) && decide ((k : Int) < 6)) = false := by
        rw [Bool.and_eq_false_iff, decide_eq_false_iff_not, decide_eq_false_iff_not]
        omega
      generalize hTX : texts cl = T at *
      have HTX := Lib.hid hTX
      clear hTX
      have hcase : (ls.length ≤ k) ∨ (k < ls.length ∧ 6 ≤ k) := by omega
      clear hboth hd
      rcases hcase with hc | ⟨hc, hc6⟩
      all_goals
        (go_wp2_with fail
         refine (varText_calls _ _ cl _ hxl (by rw [HTX.out]; have := HCT.out; omega)).mono ?_
         rw [HTX.out]
         rintro e w1 ⟨v1, rfl, hv1, hu1⟩
         obtain ⟨B1, d1, rfl, hr1⟩ := hv1.rd
         go_wp2_with fail
         refine (refSame_eq hr1 (hy1.up hu1) rfl rfl rfl).mono ?_
         rintro e w2 ⟨rfl, hq2⟩
         have hU2 : Up w w2 := hu.trans (hu1.trans hq2.up)
         have hxl2 := (hxl.up hu1).up hq2.up
         have hr2 := hr1.up hq2.up
         clear hr1 hq2 hu1 hv1 hxl hy1 hu hrel
         go_wp2_with fail
         go_loopw [9, 10, 11, 12, 13] (fun o i _ _ _ wx => ∃ (j : Nat) (Bo : Option Addr) (d : Nat) (t : List Int), j ≤ cl.length ∧ i = .int .i64 j ∧ o = .slice Bo t.length d ∧ Rd wx .u8 Bo d t ∧ Hid (t = texts (cl.drop j)) ∧ t.length ≤ 1260 ∧ Up w2 wx) (fun _ i _ _ _ _ => cl.length - (intOf i).toNat)
         case atStart => exact ⟨0, B1, d1, T, by omega, rfl, rfl, hr2, Lib.hid HTX.out.symm, HCT.out, Up.refl _⟩
         case round =>
           obtain ⟨j, Bo, d, t, hj, rfl, rfl, hro, HTj, htl, huj⟩ := hrel
           by_cases hjl : j < cl.length
           · obtain ⟨ad2, s, A', c', rfl, hcell, hrd, HL⟩ := (hxl2.up huj).get j hjl
             have hsl := hrd.len
             have HE := Lib.hid (show tget t = (s, texts (cl.drop (j + 1)), 0) by
               rw [HTj.out, List.drop_eq_getElem_cons hjl, show cl[j] = s by rw [← HL.out, List.getD_eq_getElem?_getD, List.getElem?_eq_getElem hjl]; rfl]
               exact tget_texts s _ hsl)
             have HLE := Lib.hid (show (texts (cl.drop (j + 1))).length ≤ 1260 by
               have e : t = vput s.length ++ s ++ texts (cl.drop (j + 1)) := by
                 rw [HTj.out, List.drop_eq_getElem_cons hjl, show cl[j] = s by rw [← HL.out, List.getD_eq_getElem?_getD, List.getElem?_eq_getElem hjl]; rfl]
                 simp [texts]
               have := congrArg List.length e
               rw [List.length_append] at this
               omega)
             generalize hnx : texts (cl.drop (j + 1)) = nx at *
             have HNX := Lib.hid hnx
             clear hnx
             go_wp2_with fail
             refine (varGetText_calls _ _ t _ hro (by omega)).mono ?_
             rw [HE.out]
             intro e w3 hp
             obtain ⟨v3, v4, rfl, hv3, hv4, hu3⟩ := hp.out
             simp only at hv3 hv4 ⊢
             obtain ⟨B3, d3, rfl, hr3⟩ := hv3.rd
             obtain ⟨B4, d4, rfl, hr4⟩ := hv4.rd
             have hcell3 := hu3.cell hcell
             go_wp2_with fail
             refine (refSame_eq hr3 (hrd.up hu3) rfl rfl rfl).mono ?_
             rintro e w5 ⟨rfl, hq5⟩
             go_wp2_with fail
             go_roundw
             case rel => exact ⟨j + 1, B4, d4, nx, by omega, by simp, rfl, hr4.up hq5.up, Lib.hid HNX.out.symm, HLE.out, huj.trans (hu3.trans hq5.up)⟩
             case measure => simp [intOf]; omega
           · have hje : j = cl.length := by omega
             subst hje
             have ht0 : t = [] := by rw [HTj.out, List.drop_length]; rfl
             subst ht0
             have hbj := (hb.up hU2).up huj
             clear htl
             have hvat := vget_at 9223372036854775807 b 0 0
             have hvle := vget_le 9223372036854775807 b 0 0
             have hverr := vget_err 9223372036854775807 b 0 0
             generalize hr : vget 9223372036854775807 b 0 0 = r at *
             obtain ⟨m, j, f⟩ := r
             simp only [Nat.zero_add] at hvat hvle hverr
             have HR := Lib.hid hr
             have HTG := Lib.hid (tget_of hr)
             clear hr
             have HQ2 := HQl.out
             go_wp2_with fail
             refine (varGetText_calls A2 c2 b wr hbj (by omega)).mono ?_
             intro e w3 hp
             obtain ⟨v3, v4, rfl, hv3, hv4, hu3⟩ := hp.out
             clear hp
             by_cases hf : f = 0
             · subst hf
               have HTG2 := HTG.out.trans (if_neg (by omega))
               clear HTG
               have hjb : (j : Int) ≤ (b.length : Int) := by omega
               by_cases hlong : (b.drop j).length < m
               · rw [HTG2.trans (if_pos hlong)] at hv3 hv4 ⊢
                 clear HTG2
                 rw [List.length_drop] at hlong
                 have hlong2 : (b.length : Int) - (j : Int) < (m : Int) := by omega
                 obtain ⟨B3, d3, rfl, hr3⟩ := hv3.rd
                 obtain ⟨B4, d4, rfl, hr4⟩ := hv4.rd
                 go_wp2_with fail
                 refine (ref2Get_zero A2 c2 9223372036854775807 b w3 (hbj.up hu3) (by omega) (by omega)).mono ?_
                 rw [HR.out]
                 rintro e w4 ⟨rfl, rfl⟩
                 go_wp2_with fail
                 refine (varKnown_calls w3).mono ?_
                 rintro e w4 ⟨rfl, hu4⟩
                 go_wp2_with fail
                 go_ret
                 exact ⟨rfl, hU2.trans (huj.trans (hu3.trans hu4))⟩
               · rw [HTG2.trans (if_neg hlong)] at hv3 hv4 ⊢
                 clear HTG2
                 rw [List.length_drop] at hlong
                 have hlong2 : (m : Int) ≤ (b.length : Int) - (j : Int) := by omega
                 obtain ⟨B3, d3, rfl, hr3⟩ := hv3.rd
                 obtain ⟨B4, d4, rfl, hr4⟩ := hv4.rd
                 have hb3 := hbj.up hu3
                 go_wp2_with fail
                 refine (ref2Get_zero A2 c2 9223372036854775807 b w3 hb3 (by omega) (by omega)).mono ?_
                 rw [HR.out]
                 rintro e w4 ⟨rfl, rfl⟩
                 have hjm : ((j : Int) + (m : Int)).toNat = j + m := by omega
                 have hjt : ((j : Int)).toNat = j := by omega
                 go_wp2_with fail
                 refine (varKnown_calls w3).mono ?_
                 rintro e w4 ⟨rfl, hu4⟩
                 have hb4 := hb3.up hu4
                 have hbc := hb.le
                 have hcut := hb4.cut j (j + m) c2 (by omega) (by omega) (by omega) (Nat.le_refl _)
                 have hdrop := hb4.drop_ (j + m) (by omega)
                 rw [show (b.take (j + m)).drop j = (b.drop j).take m by rw [List.drop_take]; congr 1; omega] at hcut
                 rw [show b.drop (j + m) = (b.drop j).drop m by rw [List.drop_drop]] at hdrop
                 rw [List.length_take, List.length_drop] at hv3
                 by_cases hcj : c2 = j
                 · have hm0 : m = 0 := by omega
                   subst hm0 hcj
                   simp only [Nat.add_zero, if_true, Nat.sub_self] at hcut hdrop
                   go_wp2_with fail
                   refine (refSame_eq (hr3.up hu4) hcut ?_ ?_ ?_).mono ?_
                   · first | rfl | (simp; done) | (simp; omega) | omega
                   · first | rfl | (simp; done) | (simp; omega) | omega
                   · first | rfl | (simp; done) | (simp; omega) | omega
                   rintro e w5 ⟨rfl, hq5⟩
                   go_wp2_with fail
                   refine (refSame_eq ((hr4.up hu4).up hq5.up) (hdrop.up hq5.up) ?_ ?_ ?_).mono ?_
                   · first | rfl | (simp; done) | (simp; omega) | omega
                   · first | rfl | (simp; done) | (simp; omega) | omega
                   · first | rfl | (simp; done) | (simp; omega) | omega
                   rintro e w6 ⟨rfl, hq6⟩
                   go_wp2_with fail
                   go_ret
                   exact ⟨rfl, hU2.trans (huj.trans (hu3.trans (hu4.trans (hq5.up.trans hq6.up))))⟩
                 · rw [if_neg hcj] at hcut
                   by_cases hcm : c2 = j + m
                   · rw [if_pos hcm] at hdrop
                     subst hcm
                     simp only [Nat.add_sub_cancel_left, Nat.sub_self] at hcut hdrop
                     go_wp2_with fail
                     refine (refSame_eq (hr3.up hu4) hcut ?_ ?_ ?_).mono ?_
                     · first | rfl | (simp; done) | (simp; omega) | omega
                     · first | rfl | (simp; done) | (simp; omega) | omega
                     · first | rfl | (simp; done) | (simp; omega) | omega
                     rintro e w5 ⟨rfl, hq5⟩
                     go_wp2_with fail
                     refine (refSame_eq ((hr4.up hu4).up hq5.up) (hdrop.up hq5.up) ?_ ?_ ?_).mono ?_
                     · first | rfl | (simp; done) | (simp; omega) | omega
                     · first | rfl | (simp; done) | (simp; omega) | omega
                     · first | rfl | (simp; done) | (simp; omega) | omega
                     rintro e w6 ⟨rfl, hq6⟩
                     go_wp2_with fail
                     go_ret
                     exact ⟨rfl, hU2.trans (huj.trans (hu3.trans (hu4.trans (hq5.up.trans hq6.up))))⟩
                   · rw [if_neg hcm] at hdrop
                     go_wp2_with fail
                     refine (refSame_eq (hr3.up hu4) hcut ?_ ?_ ?_).mono ?_
                     · first | rfl | (simp; done) | (simp; omega) | omega
                     · first | rfl | (simp; done) | (simp; omega) | omega
                     · first | rfl | (simp; done) | (simp; omega) | omega
                     rintro e w5 ⟨rfl, hq5⟩
                     go_wp2_with fail
                     refine (refSame_eq ((hr4.up hu4).up hq5.up) (hdrop.up hq5.up) ?_ ?_ ?_).mono ?_
                     · first | rfl | (simp; done) | (simp; omega) | omega
                     · first | rfl | (simp; done) | (simp; omega) | omega
                     · first | rfl | (simp; done) | (simp; omega) | omega
                     rintro e w6 ⟨rfl, hq6⟩
                     go_wp2_with fail
                     go_ret
                     exact ⟨rfl, hU2.trans (huj.trans (hu3.trans (hu4.trans (hq5.up.trans hq6.up))))⟩
             · rw [HTG.out.trans (if_pos hf)] at hv3 hv4 ⊢
               clear HTG
               obtain ⟨B3, d3, rfl, hr3⟩ := hv3.rd
               obtain ⟨B4, d4, rfl, hr4⟩ := hv4.rd
               go_wp2_with fail
               refine (ref2Get_zero A2 c2 9223372036854775807 b w3 (hbj.up hu3) (by omega) (by omega)).mono ?_
               rw [HR.out]
               rintro e w4 ⟨rfl, rfl⟩
               have hfi : ¬ ((f : Int) = 0) := by omega
               go_wp2_with fail
               refine (varKnown_calls w3).mono ?_
               rintro e w4 ⟨rfl, hu4⟩
               go_wp2_with fail
               go_ret
               exact ⟨rfl, hU2.trans (huj.trans (hu3.trans hu4))⟩)
end Go.Proofs.Ythnkebihpmggbaa
