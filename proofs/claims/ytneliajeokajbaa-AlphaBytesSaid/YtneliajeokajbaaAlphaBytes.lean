/- AlphaBytes: the walk of the law. -/
import Derived.Test.YtneliajeokajbaaAlphaParse
import Derived.Test.YtneliajeokajbaaAlphaTables
import Derived.Test.YtneliajeokajbaaAlphaNil
namespace Go.Proofs.Ytneliajeokajbaa
open Go.RowKit
set_option maxRecDepth 100000

theorem okTo_tab {t : List Int} (h : symsB t = true) (hl : t.length ≤ 65536) (k : Nat) (hk : k ≤ (tsyms t 258).length) : okTo (tsyms t 258) (tcounts t 258) k = true := by
  induction k with
  | zero => rfl
  | succ k ih =>
    rw [okTo_succ, ih (by omega), Bool.true_and]
    have h1 := (mem_tsyms h _).1 (getD_mem (tsyms t 258) k (by omega))
    have h2 := symsB_get h h1
    have h3 := tcounts_get t 258 k (by omega)
    have h4 := cnt_pos.2 h1
    have h5 := take_sum_succ (tcounts t 258) k (by rw [tcounts_len]; omega)
    have h6 := (sum_take_le (tcounts t 258) (tcounts_pos t 258) (k + 1)).2
    have h7 := cnt_sum t 258
    unfold okAt
    simp only [Bool.and_eq_true, Bool.or_eq_true, decide_eq_true_eq]
    refine ⟨⟨⟨h2.2, ?_⟩, by omega⟩, by omega⟩
    by_cases hk0 : k = 0
    · exact .inl hk0
    · exact .inr (tsyms_rising t 258 (k - 1) k (by omega) (by omega))
theorem rightB_tab {t : List Int} (h : symsB t = true) (hl : t.length ≤ 65536) : rightB (tsyms t 258) (tcounts t 258) = true := by
  unfold rightB
  rw [Bool.and_eq_true, decide_eq_true_eq]
  exact ⟨(tcounts_len t 258).symm, okTo_tab h hl _ (Nat.le_refl _)⟩
theorem tsyms_range (t : List Int) (n : Nat) (hn : n ≤ 1000) : ∀ x ∈ tsyms t n, 0 ≤ x ∧ x ≤ 9223372036854775807 := by
  intro x hx
  obtain ⟨s, hs, rfl, _⟩ := (tsyms_mem t n x).1 hx
  omega
theorem tcounts_range (t : List Int) (n : Nat) (hl : t.length ≤ 65536) : ∀ x ∈ tcounts t n, 0 ≤ x ∧ x ≤ 9223372036854775807 := by
  intro x hx
  obtain ⟨y, _, rfl⟩ := List.mem_map.1 hx
  have := cnt_le t y
  omega

theorem len_eqB (a b : Nat) : ((a : Int) == (b : Int)) = decide (a = b) := by
  by_cases h : a = b
  · simp [h]
  · have h9 : ¬ (a : Int) = (b : Int) := by omega
    simp [h]
    omega
set_option maxHeartbeats 8000000 in
theorem lawAlphaBytes_calls (A : Option Addr) (c : Nat) (t0 : List Int) (B : Option Addr) (d : Nat) (b0 : List Int) (w : World) (h1 : Rd w .i64 A c t0) (h2 : Rd w .u8 B d b0) :
    Calls Try.prog 12 #[.slice A t0.length c, .slice B b0.length d] w fun e w' => e = .returned (.bool true) ∧ Up w w' := by
  obtain ⟨m, hm, hmc, hm2, HM, hrt⟩ := min_of h1 200
  rw [show ((200 : Nat) : Int) = 200 from rfl] at hm hm2
  have HT := Lib.hid (List.length_take_le 200 t0)
  generalize hs : t0.take 200 = t at *
  clear hs
  have hms : m = t.length := HM.out
  subst hms
  obtain ⟨m, hq, hqc, hq2, HQ, hrb⟩ := min_of h2 100
  rw [show ((100 : Nat) : Int) = 100 from rfl] at hq hq2
  have HB := Lib.hid (List.length_take_le 100 b0)
  generalize hs : b0.take 100 = b at *
  clear hs
  have hms : m = b.length := HQ.out
  subst hms
  go_enter Try.func12, Try.ntmps12
  go_wp2_with fail
  go_quiet (fail)
  have hrt' := hrt.drewN nq
  have hrb' := hrb.drewN nq
  have hu0 : Up w (w.drewN nq) := (Up.refl _).drewN nq
  generalize w.drewN nq = w0 at *
  go_wp2_with fail
  refine (alphaNew_calls A c t w0 hrt' (by have := HT.out; omega)).mono ?_
  rintro e w1 ⟨hu1, hp⟩
  have hU1 := hu0.trans hu1
  have hrt1 := hrt'.up hu1
  have hrb1 := hrb'.up hu1
  have HP : Hid (∃ (pv : Option Addr) (ev : Int), e = .returned (.tuple #[.pointer pv, .int .i64 ev]) ∧ ((symsB t = true ∧ ev = 0 ∧ Tab w1 (.pointer pv) (tsyms t 258) (tcounts t 258) (sums (tcounts t 258))) ∨ (ev = 10))) := Lib.hid (by
    rcases hp with ⟨hB, p, rfl, hT⟩ | ⟨hB, rfl⟩
    · obtain ⟨pg, hpg⟩ : ∃ g, p = .pointer (some ⟨g, 0, none⟩) := by
        obtain ⟨g, _, _, _, _, _, _, e, _⟩ := hT.out
        exact ⟨g, e⟩
      subst hpg
      exact ⟨_, _, rfl, .inl ⟨hB, rfl, hT⟩⟩
    · exact ⟨_, _, rfl, .inr rfl⟩)
  clear hp
  obtain ⟨pv, ev, rfl, hcase⟩ := HP.out
  clear HP
  have HC := Lib.hid hcase
  clear hcase hrt hrt' hrb'
  go_upto_if 39 with fail
  go_cut [7] (fun _ wc => Up w wc)
  case first =>
    rcases HC.out with ⟨hB, rfl, hT⟩ | rfl
    · have HSB := Lib.hid hB
      clear hB HC
      have HR1 := Lib.hid (rightB_tab HSB.out (by have := HT.out; omega))
      have HG1 := Lib.hid (tsyms_range t 258 (by omega))
      have HG2 := Lib.hid (tcounts_range t 258 (by have := HT.out; omega))
      have HL1 := Lib.hid (tsyms_len t 258)
      have HL2 := Lib.hid (tcounts_len t 258)
      go_wp2_with fail
      refine (ref14Table_calls A c t w1 hrt1).mono ?_
      rintro e w2 ⟨hu2, v1, v2, rfl, hv1, hv2⟩
      obtain ⟨B1, c1, rfl, hr1⟩ := hv1.rd
      obtain ⟨B2, c2, rfl, hr2⟩ := hv2.rd
      have hT2 := hT.up hu2
      have hU2 := hU1.trans hu2
      have hrb2 := hrb1.up hu2
      generalize tsyms t 258 = sy at *
      generalize tcounts t 258 = ct at *
      have hsl : sy.length ≤ 258 := HL1.out
      have hcl : ct.length ≤ 258 := by rw [HL2.out]; exact HL1.out
      have HW1 := Lib.hid (vlist_len sy hr1.wf (by omega))
      have HW2 := Lib.hid (vlist_len ct hr2.wf (by omega))
      clear hv1 hv2 hT HL1 HL2
      go_wp2_with fail
      refine (ref2List_calls B1 c1 sy w2 hr1 (by omega) (fun x hx => (HG1.out x hx).1)).mono ?_
      rintro e w3 ⟨v3, rfl, hv3, hu3⟩
      obtain ⟨B3, c3, rfl, hr3⟩ := hv3.rd
      rw [show vput sy.length ++ vputs sy = vlist sy from rfl] at hv3 hr3 ⊢
      have hr23 := hr2.up hu3
      go_wp2_with fail
      refine (ref2List_calls B2 c2 ct w3 hr23 (by omega) (fun x hx => (HG2.out x hx).1)).mono ?_
      rintro e w4 ⟨v4, rfl, hv4, hu4⟩
      obtain ⟨B4, c4, rfl, hr4⟩ := hv4.rd
      rw [show vput ct.length ++ vputs ct = vlist ct from rfl] at hv4 hr4 ⊢
      have hU4 := hU2.trans (hu3.trans hu4)
      have hT4 := hT2.up (hu3.trans hu4)
      have hrb4 := hrb2.up (hu3.trans hu4)
      have HGW := Lib.hid (glist_vlist sy (vlist ct ++ b) HG1.out (by omega))
      have HGC := Lib.hid (glist_vlist ct b HG2.out (by omega))
      have HBW := Lib.hid (show (vlist sy ++ vlist ct).length ≤ 10000 by have := HW1.out; have := HW2.out; rw [List.length_append]; omega)
      have hv3' := hv3.up hu4
      rw [← List.append_assoc] at HGW
      generalize hX : vlist sy = X at *
      generalize hY : vlist ct = Y at *
      have HX := Lib.hid hX
      have HY := Lib.hid hY
      clear hX hY hv4 hr3 hr23
      have hX5 : X.length + Y.length ≤ 10000 := by have := HBW.out; rw [List.length_append] at this; exact this
      have hlo3 := hv3'.lt
      have hbl := HB.out
      go_wp2_with (first
        | (refine wpl_append (t := 76) w2.heap.size 5 .u8 1 Try.underlying76 infoU8 _ X rfl hv3' B4 _ c4 Y rfl rfl hr4 (by omega) (by decide) (hu3.trans hu4).size ?_
           intro v5 w5 hv5 hu5 _
           obtain ⟨B5, c5, rfl, hr5⟩ := hv5.rd
           have hU5 : Up w2 w5 := (hu3.trans hu4).thenx hu5 fun i hi e => by have := (hlo3 i e).1; omega
           have hE := (Up.refl w5).alloc (.cells #[] 5)
           have hoE := own_empty w5 5 .u8)
        | (refine wpl_append (t := 76) w5.heap.size 5 .u8 1 Try.underlying76 infoU8 (.slice (some ⟨w5.heap.size, 0, none⟩) 0 0) [] rfl hoE B5 _ c5 (X ++ Y) rfl (by simp) (hr5.up hE) (by simp; omega) (by decide) (by simp) ?_
           intro v6 w6 hv6 hu6 _
           rw [List.nil_append] at hv6
           have hU6 : Up w5 w6 := hE.thenx hu6 fun i hi e => by have e' : w5.heap.size = i := Option.some.inj e; omega
           have hlo6 := hv6.lt)
        | (refine wpl_append (t := 76) w5.heap.size 5 .u8 1 Try.underlying76 infoU8 v6 (X ++ Y) rfl hv6 B _ d b rfl rfl ((hrb2.up hU5).up hU6) (by simp; omega) (by decide) hU6.size ?_
           intro v7 w7 hv7 hu7 _
           have hU7 : Up w5 w7 := hU6.thenx hu7 fun i hi e => by have := (hlo6 i e).1; omega
           obtain ⟨B7, c7, rfl, hr7⟩ := hv7.rd))
      have hU57 := hU5.trans hU7
      have hU27 := hU2.trans hU57
      have hr57 := hr5.up hU7
      clear hoE hE hv6 hv7 hv5 hu5 hu6 hu7 hlo3 hlo6
      rw [show X.length + (Y.length + b.length) = (X ++ Y ++ b).length by simp]
      refine (alphaParse_calls B7 c7 (X ++ Y ++ b) w7 hr7 (by simp; omega)).mono ?_
      rintro e w8 ⟨hu8, hp⟩
      rw [HGW.out] at hp
      simp only at hp
      rw [HGC.out] at hp
      simp only [HR1.out] at hp
      have hp4 : ∃ pg B8 d8, e = .returned (.tuple #[.pointer (some ⟨pg, 0, none⟩), .slice B8 b.length d8, .int .i64 0]) ∧ Tab w8 (.pointer (some ⟨pg, 0, none⟩)) sy ct (sums ct) ∧ Rd w8 .u8 B8 d8 b := by
        rcases hp with ⟨h0, _⟩ | ⟨_, h0, _⟩ | ⟨_, _, h0, _⟩ | ⟨_, _, _, pg, B8, d8, e8, hT8, hr8⟩
        · exact absurd rfl h0
        · exact absurd rfl h0
        · cases h0
        · exact ⟨pg, B8, d8, e8, hT8, hr8⟩
      clear hp
      obtain ⟨pg, B8, d8, rfl, hT8, hr8⟩ := hp4
      have hU58 := hU57.trans hu8
      have hr58 := hr57.up hu8
      have hrb8 := hrb2.up hU58
      obtain ⟨pg0, hpg0⟩ : ∃ g, pv = some ⟨g, 0, none⟩ := by
        obtain ⟨g, _, _, _, _, _, _, e, _⟩ := hT2.out
        exact ⟨g, by simpa using e⟩
      subst hpg0
      have hBY := Lib.hid (fun (w : World) (q : Value) (h : Tab w q sy ct (sums ct)) => alphaBytes_calls w h (fun x hx => (HG1.out x hx).1) (fun x hx => (HG2.out x hx).1) (by omega) (by omega))
      rw [HX.out, HY.out] at hBY
      go_wp2_with fail
      refine (hBY.out w8 _ (hT2.up hU58)).mono ?_
      rintro e w9 ⟨v9, rfl, hv9, hu9⟩
      obtain ⟨B9, c9, rfl, hr9⟩ := hv9.rd
      clear hv9
      go_wp2_with fail
      refine (refSame_eq hr9 (hr58.up hu9) (by simp) (by simp) rfl).mono ?_
      rintro e w10 ⟨rfl, hq10⟩
      have hu10 := hu9.trans hq10.up
      go_wp2_with fail
      refine (hBY.out w10 _ (hT8.up hu10)).mono ?_
      rintro e w11 ⟨v11, rfl, hv11, hu11⟩
      obtain ⟨B11, c11, rfl, hr11⟩ := hv11.rd
      clear hv11
      have hu11' := hu10.trans hu11
      go_wp2_with fail
      refine (refSame_eq hr11 (hr58.up hu11') (by simp) (by simp) rfl).mono ?_
      rintro e w12 ⟨rfl, hq12⟩
      have hu12 := hu11'.trans hq12.up
      go_wp2_with fail
      refine (refSame_eq (hr8.up hu12) (hrb8.up hu12) rfl rfl rfl).mono ?_
      rintro e w13 ⟨rfl, hq13⟩
      go_wp2_with fail
      go_meet
      exact hU2.trans (hU58.trans (hu12.trans hq13.up))
    · go_wp2_with fail
      go_meet
      exact hU1
  case rest =>
    have hUc := hcut
    clear hcut HC
    have hrbc := hrb.up hUc
    have hbl := HB.out
    clear hu0 hu1 hU1 hrt1 hrb1
    go_wp2_with fail
    refine (alphaParse_calls B d b _ hrbc (by omega)).mono ?_
    rintro e w1 ⟨hu1, hp⟩
    have HP : Hid (∃ (pv : Option Addr) (B1 : Option Addr) (n1 d1 : Nat) (ev : Int), e = .returned (.tuple #[.pointer pv, .slice B1 n1 d1, .int .i64 ev]) ∧
        (((glist b).2.2 ≠ 0 ∧ pv = none ∧ ev = (glist b).2.2) ∨ ((glist b).2.2 = 0 ∧ (glist (glist b).2.1).2.2 ≠ 0 ∧ pv = none ∧ ev = (glist (glist b).2.1).2.2) ∨
         ((glist b).2.2 = 0 ∧ (glist (glist b).2.1).2.2 = 0 ∧ rightB (glist b).1 (glist (glist b).2.1).1 = false ∧ pv = none ∧ ev = 3) ∨
         ((glist b).2.2 = 0 ∧ (glist (glist b).2.1).2.2 = 0 ∧ rightB (glist b).1 (glist (glist b).2.1).1 = true ∧ ev = 0 ∧ n1 = (glist (glist b).2.1).2.1.length ∧ Tab w1 (.pointer pv) (glist b).1 (glist (glist b).2.1).1 (sums (glist (glist b).2.1).1) ∧ Rd w1 .u8 B1 d1 (glist (glist b).2.1).2.1))) := Lib.hid (by
      rcases hp with ⟨h0, rfl⟩ | ⟨h0, h1, rfl⟩ | ⟨h0, h1, h2, rfl⟩ | ⟨h0, h1, h2, pg, B1, d1, rfl, hT, hr⟩
      · exact ⟨_, _, _, _, _, rfl, .inl ⟨h0, rfl, rfl⟩⟩
      · exact ⟨_, _, _, _, _, rfl, .inr (.inl ⟨h0, h1, rfl, rfl⟩)⟩
      · exact ⟨_, _, _, _, _, rfl, .inr (.inr (.inl ⟨h0, h1, h2, rfl, rfl⟩))⟩
      · exact ⟨_, _, _, _, _, rfl, .inr (.inr (.inr ⟨h0, h1, h2, rfl, rfl, hT, hr⟩))⟩)
    clear hp
    obtain ⟨pv, B1, n1, d1, ev, rfl, hcase⟩ := HP.out
    clear HP
    have HC := Lib.hid hcase
    clear hcase
    have hU1 := hUc.trans hu1
    have HBK : Hid ((glist b).2.2 = 0 → b = vlist (glist b).1 ++ (glist b).2.1 ∧ (∀ x ∈ (glist b).1, 0 ≤ x ∧ x ≤ 9223372036854775807) ∧ (glist b).1.length ≤ 65536) := Lib.hid (fun h => glist_back hrb.wf (by
      rw [← h]))
    generalize hG : glist b = G at *
    have HG := Lib.hid hG
    clear hG
    obtain ⟨sy, r1, f1⟩ := G
    simp only at HC HBK
    generalize hG : glist r1 = G at *
    have HG2 := Lib.hid hG
    clear hG
    obtain ⟨ct, r2, f2⟩ := G
    simp only at HC
    go_wp2_with fail
    refine (varGetList_calls B d b w1 (hrbc.up hu1) (by omega)).mono ?_
    rintro e w2 hp
    obtain ⟨v1, v2, rfl, hv1, hv2, hu2⟩ := hp.out
    clear hp
    rw [HG.out] at hv1 hv2 ⊢
    simp only at hv1 hv2 ⊢
    obtain ⟨B2, c2, rfl, hr2⟩ := hv1.rd
    obtain ⟨B3, c3, rfl, hr3⟩ := hv2.rd
    clear hv1 hv2
    by_cases hf1 : f1 = 0
    case neg =>
      obtain ⟨rfl, rfl⟩ : pv = none ∧ ev = f1 := by
        rcases HC.out with ⟨_, h1, h2⟩ | ⟨h0, _⟩ | ⟨h0, _⟩ | ⟨h0, _⟩
        · exact ⟨h1, h2⟩
        · exact absurd h0 hf1
        · exact absurd h0 hf1
        · exact absurd h0 hf1
      have hf1' : ¬ ((f1 : Int) = 0) := by omega
      have hf1b : ((f1 : Int) != 0) = true := by simp; omega
      clear HC
      go_wp2_with fail
      refine (law14known_calls w2).mono ?_
      rintro e w3 ⟨rfl, hu3⟩
      go_wp2_with fail
      go_ret
      exact ⟨rfl, hU1.trans (hu2.trans hu3)⟩
    subst hf1
    have HB2 := Lib.hid (HBK.out rfl)
    have HRL : Hid (r1.length ≤ 100) := Lib.hid (by have := congrArg List.length HB2.out.1; rw [List.length_append] at this; omega)
    clear HBK
    go_wp2_with fail
    refine (varGetList_calls B3 c3 r1 w2 hr3 (by have := HRL.out; omega)).mono ?_
    rintro e w3 hp
    obtain ⟨v1, v2, rfl, hv1, hv2, hu3⟩ := hp.out
    clear hp
    rw [HG2.out] at hv1 hv2 ⊢
    simp only at hv1 hv2 ⊢
    obtain ⟨B4, c4, rfl, hr4⟩ := hv1.rd
    obtain ⟨B5, c5, rfl, hr5⟩ := hv2.rd
    clear hv1 hv2
    have hU3 := hU1.trans (hu2.trans hu3)
    by_cases hf2 : f2 = 0
    case neg =>
      obtain ⟨rfl, rfl⟩ : pv = none ∧ ev = f2 := by
        rcases HC.out with ⟨h0, _⟩ | ⟨_, _, h1, h2⟩ | ⟨_, h0, _⟩ | ⟨_, h0, _⟩
        · exact absurd rfl h0
        · exact ⟨h1, h2⟩
        · exact absurd h0 hf2
        · exact absurd h0 hf2
      have hf2' : ¬ ((f2 : Int) = 0) := by omega
      have hf2b : ((f2 : Int) != 0) = true := by simp; omega
      clear HC
      go_wp2_with fail
      refine (law14known_calls w3).mono ?_
      rintro e w4 ⟨rfl, hu4⟩
      go_wp2_with fail
      go_ret
      exact ⟨rfl, hU3.trans hu4⟩
    subst hf2
    have HB3 := Lib.hid (glist_back hr3.wf HG2.out)
    have hr2' := hr2.up hu3
    have hsl : sy.length ≤ 65536 := HB2.out.2.2
    go_wp2_with fail
    go_loopw [20, 21, 22] (fun ok n i wr => ∃ (k : Nat) (o : Bool) (m : Int), k ≤ sy.length ∧ i = .int .i64 k ∧ ok = .bool o ∧ n = .int .i64 m ∧ Hid (o = (decide (sy.length = ct.length) && okTo sy ct k)) ∧ Hid (o = true → m = (ct.take k).sum) ∧ Up w3 wr) (fun _ _ i _ => sy.length - (intOf i).toNat)
    case atStart => exact ⟨0, decide (sy.length = ct.length), 0, by omega, rfl, congrArg Value.bool (len_eqB _ _), rfl, Lib.hid (by simp [okTo]), Lib.hid (fun _ => by simp), Up.refl _⟩
    case round =>
      obtain ⟨k, o, m, hk, rfl, rfl, rfl, HO, HM2, hur⟩ := hrel
      cases o with
      | false =>
        have HRF : Hid (rightB sy ct = false) := Lib.hid (by
          have h9 := HO.out
          unfold rightB
          by_cases hl : sy.length = ct.length
          · rw [decide_eq_true hl, Bool.true_and] at h9 ⊢
            exact okTo_false h9.symm hk
          · rw [decide_eq_false hl]; rfl)
        obtain ⟨rfl, rfl⟩ : pv = none ∧ ev = 3 := by
          rcases HC.out with ⟨h0, _⟩ | ⟨_, h0, _⟩ | ⟨_, _, _, h1, h2⟩ | ⟨_, _, h0, _⟩
          · exact absurd rfl h0
          · exact absurd rfl h0
          · exact ⟨h1, h2⟩
          · rw [HRF.out] at h0; cases h0
        clear HC
        go_wp2_with fail
        refine (law14known_calls wr).mono ?_
        rintro e w4 ⟨rfl, hu4⟩
        go_wp2_with fail
        go_ret
        exact ⟨rfl, hU3.trans (hur.trans hu4)⟩
      | true =>
        have h9 := HO.out
        have HLN : Hid (sy.length = ct.length) := Lib.hid (by
          by_cases hl : sy.length = ct.length
          · exact hl
          · rw [decide_eq_false hl] at h9; cases h9)
        have HOK : Hid (okTo sy ct k = true) := Lib.hid (by rw [HLN.out] at h9; simpa using h9.symm)
        have HMV := Lib.hid (HM2.out rfl)
        clear h9 HM2 HO
        by_cases hlt : k < sy.length
        · obtain ⟨ad, x, rfl, hc, HX, _⟩ := hr2'.get k hlt
          have hltc : k < ct.length := by rw [← HLN.out]; exact hlt
          obtain ⟨ad2, y, rfl, hc2, HY, hyr⟩ := hr4.get k hltc
          have hc' := hur.cell hc
          have hc2' := hur.cell hc2
          have HS := Lib.hid (okTo_sum HOK.out (by omega))
          have hm1 : m ≤ 65536 := by rw [HMV.out]; exact HS.out.1
          have hm0 : 0 ≤ m := by rw [HMV.out]; exact HS.out.2
          have HA := Lib.hid (show okAt sy ct k = (decide (x < 258) && (decide (k = 0) || decide (sy.getD (k - 1) 0 < x)) && decide (1 ≤ y) && decide (y ≤ 65536 - m)) by unfold okAt; rw [HX.out, HY.out, HMV.out])
          have hyb := hyr.i64
          by_cases hx : x < 258
          · have key : (((k : Int) == 0) = true ∧ Hid (k = 0)) ∨ (((k : Int) == 0) = false ∧ (¬ k = 0) ∧ 0 < k ∧ ((k : Int) - 1).toNat = k - 1 ∧ k - 1 < sy.length ∧ ∃ z, wr.cell? (ad.add (k - 1)) = some (.int .i64 z) ∧ Hid (sy.getD (k - 1) 0 = z ∧ ¬ k = 0)) := by
              by_cases h0 : k = 0
              · exact .inl ⟨by simp; omega, h0⟩
              · obtain ⟨_, z, e0, hz, HZ, _⟩ := hr2'.get (k - 1) (by omega)
                obtain rfl := Option.some.inj e0
                exact .inr ⟨by simp; omega, h0, by omega, by omega, by omega, z, hur.cell hz, Lib.hid ⟨HZ.out, h0⟩⟩
            rcases key with ⟨hk0, HK0⟩ | ⟨hk0, hk9, hk1, hk2, hk3, z, hz, HZ⟩
            · by_cases hy : 1 ≤ y
              · have hy0 : 0 < y := by omega
                by_cases hy2 : y ≤ 65536 - m
                ·
                  have HO2 : Hid (true = (decide (sy.length = ct.length) && okTo sy ct (k + 1))) := Lib.hid (by rw [okTo_succ, HOK.out, show okAt sy ct k = true by rw [HA.out]; simp only [Bool.and_eq_true, Bool.or_eq_true, decide_eq_true_eq]; exact ⟨⟨⟨hx, .inl HK0.out⟩, hy⟩, hy2⟩, HLN.out]; simp)
                  have HS2 := Lib.hid (show m + y = (ct.take (k + 1)).sum by rw [take_sum_succ ct k hltc, HY.out, HMV.out])
                  go_wp2_with fail
                  go_quiet (fail)
                  go_wp2_with fail
                  go_roundw
                  case rel => exact ⟨k + 1, true, m + y, by omega, by simp, rfl, rfl, HO2, Lib.hid (fun _ => HS2.out), hur.drewN _⟩
                  case measure => simp [intOf]; omega
                ·
                  have HO2 : Hid (false = (decide (sy.length = ct.length) && okTo sy ct (k + 1))) := Lib.hid (by rw [okTo_succ, show okAt sy ct k = false by rw [HA.out, Bool.eq_false_iff]; intro h; simp only [Bool.and_eq_true, Bool.or_eq_true, decide_eq_true_eq] at h; exact hy2 h.2]; simp)
                  have hyd : decide (y ≤ 65536 - m) = false := decide_eq_false hy2
                  have hy3 : 65536 - m < y := by omega
                  clear hy2
                  go_wp2_with fail
                  go_quiet (fail)
                  go_wp2_with fail
                  go_roundw
                  case rel => exact ⟨k + 1, false, m, by omega, by simp, rfl, rfl, HO2, Lib.hid (fun h => by cases h), hur.drewN _⟩
                  case measure => simp [intOf]; omega
              · have hy0 : y ≤ 0 := by omega
                have hyd : decide (0 < y) = false := by simp; omega
                have HO2 : Hid (false = (decide (sy.length = ct.length) && okTo sy ct (k + 1))) := Lib.hid (by rw [okTo_succ, show okAt sy ct k = false by rw [HA.out, Bool.eq_false_iff]; intro h; simp only [Bool.and_eq_true, Bool.or_eq_true, decide_eq_true_eq] at h; exact hy h.1.2]; simp)
                go_wp2_with fail
                go_quiet (fail)
                go_wp2_with fail
                go_roundw
                case rel => exact ⟨k + 1, false, m, by omega, by simp, rfl, rfl, HO2, Lib.hid (fun h => by cases h), hur.drewN _⟩
                case measure => simp [intOf]; omega
            · by_cases hzx : z < x
              · by_cases hy : 1 ≤ y
                · have hy0 : 0 < y := by omega
                  by_cases hy2 : y ≤ 65536 - m
                  ·
                    have HO2 : Hid (true = (decide (sy.length = ct.length) && okTo sy ct (k + 1))) := Lib.hid (by rw [okTo_succ, HOK.out, show okAt sy ct k = true by rw [HA.out]; simp only [Bool.and_eq_true, Bool.or_eq_true, decide_eq_true_eq]; exact ⟨⟨⟨hx, .inr (by rw [HZ.out.1]; exact hzx)⟩, hy⟩, hy2⟩, HLN.out]; simp)
                    have HS2 := Lib.hid (show m + y = (ct.take (k + 1)).sum by rw [take_sum_succ ct k hltc, HY.out, HMV.out])
                    go_wp2_with fail
                    go_quiet (fail)
                    go_wp2_with fail
                    go_roundw
                    case rel => exact ⟨k + 1, true, m + y, by omega, by simp, rfl, rfl, HO2, Lib.hid (fun _ => HS2.out), hur.drewN _⟩
                    case measure => simp [intOf]; omega
                  ·
                    have HO2 : Hid (false = (decide (sy.length = ct.length) && okTo sy ct (k + 1))) := Lib.hid (by rw [okTo_succ, show okAt sy ct k = false by rw [HA.out, Bool.eq_false_iff]; intro h; simp only [Bool.and_eq_true, Bool.or_eq_true, decide_eq_true_eq] at h; exact hy2 h.2]; simp)
                    have hyd : decide (y ≤ 65536 - m) = false := decide_eq_false hy2
                    have hy3 : 65536 - m < y := by omega
                    clear hy2
                    go_wp2_with fail
                    go_quiet (fail)
                    go_wp2_with fail
                    go_roundw
                    case rel => exact ⟨k + 1, false, m, by omega, by simp, rfl, rfl, HO2, Lib.hid (fun h => by cases h), hur.drewN _⟩
                    case measure => simp [intOf]; omega
                · have hy0 : y ≤ 0 := by omega
                  have hyd : decide (0 < y) = false := by simp; omega
                  have HO2 : Hid (false = (decide (sy.length = ct.length) && okTo sy ct (k + 1))) := Lib.hid (by rw [okTo_succ, show okAt sy ct k = false by rw [HA.out, Bool.eq_false_iff]; intro h; simp only [Bool.and_eq_true, Bool.or_eq_true, decide_eq_true_eq] at h; exact hy h.1.2]; simp)
                  go_wp2_with fail
                  go_quiet (fail)
                  go_wp2_with fail
                  go_roundw
                  case rel => exact ⟨k + 1, false, m, by omega, by simp, rfl, rfl, HO2, Lib.hid (fun h => by cases h), hur.drewN _⟩
                  case measure => simp [intOf]; omega
              ·
                have HO2 : Hid (false = (decide (sy.length = ct.length) && okTo sy ct (k + 1))) := Lib.hid (by rw [okTo_succ, show okAt sy ct k = false by rw [HA.out, Bool.eq_false_iff]; intro h; simp only [Bool.and_eq_true, Bool.or_eq_true, decide_eq_true_eq] at h; exact (h.1.1.2.elim HZ.out.2 fun h9 => hzx (by rw [← HZ.out.1]; exact h9))]; simp)
                have hzd : decide (z < x) = false := decide_eq_false hzx
                have hz3 : x ≤ z := by omega
                clear hzx
                go_wp2_with fail
                go_quiet (fail)
                go_wp2_with fail
                go_roundw
                case rel => exact ⟨k + 1, false, m, by omega, by simp, rfl, rfl, HO2, Lib.hid (fun h => by cases h), hur.drewN _⟩
                case measure => simp [intOf]; omega
          ·
            have HO2 : Hid (false = (decide (sy.length = ct.length) && okTo sy ct (k + 1))) := Lib.hid (by rw [okTo_succ, show okAt sy ct k = false by rw [HA.out, Bool.eq_false_iff]; intro h; simp only [Bool.and_eq_true, Bool.or_eq_true, decide_eq_true_eq] at h; exact hx h.1.1.1]; simp)
            have hxd : decide (x < 258) = false := decide_eq_false hx
            have hx3 : 258 ≤ x := by omega
            clear hx
            go_wp2_with fail
            go_quiet (fail)
            go_wp2_with fail
            go_roundw
            case rel => exact ⟨k + 1, false, m, by omega, by simp, rfl, rfl, HO2, Lib.hid (fun h => by cases h), hur.drewN _⟩
            case measure => simp [intOf]; omega
        · have hke : k = sy.length := by omega
          subst hke
          have HRT : Hid (rightB sy ct = true) := Lib.hid (by unfold rightB; rw [HOK.out, HLN.out]; simp)
          obtain ⟨rfl, rfl, hT, hrr⟩ : ev = 0 ∧ n1 = r2.length ∧ Tab w1 (.pointer pv) sy ct (sums ct) ∧ Rd w1 .u8 B1 d1 r2 := by
            rcases HC.out with ⟨h0, _⟩ | ⟨_, h0, _⟩ | ⟨_, _, h0, _⟩ | ⟨_, _, _, h1, h2, h3, h4⟩
            · exact absurd rfl h0
            · exact absurd rfl h0
            · rw [HRT.out] at h0; cases h0
            · exact ⟨h1, h2, h3, h4⟩
          clear HC
          obtain ⟨pg, hpg⟩ : ∃ g, pv = some ⟨g, 0, none⟩ := by
            obtain ⟨g, _, _, _, _, _, _, e, _⟩ := hT.out
            exact ⟨g, by simpa using e⟩
          subst hpg
          have hu1r := (hu2.trans hu3).trans hur
          have hTr := hT.up hu1r
          have hrrr := hrr.up hu1r
          have hrbr := (hrbc.up hu1).up hu1r
          have hr5r := hr5.up hur
          have HBT := Lib.hid (show b = vlist sy ++ vlist ct ++ r2 by rw [List.append_assoc, ← HB3.out.1]; exact HB2.out.1)
          have HBL := Lib.hid (show b.length = (vlist sy ++ vlist ct).length + r2.length by rw [← List.length_append, ← HBT.out])
          have hrl : r2.length ≤ b.length := by rw [HBL.out]; omega
          have HTK := Lib.hid (show b.take (b.length - r2.length) = vlist sy ++ vlist ct by
            rw [show b.length - r2.length = (vlist sy ++ vlist ct).length by rw [HBL.out]; omega]
            conv => lhs; rw [HBT.out]
            exact List.take_left)
          have HTL := Lib.hid (show b.length - r2.length = (b.take (b.length - r2.length)).length by rw [List.length_take]; omega)
          have hsub : ((b.length : Int) - (r2.length : Int)).toNat = b.length - r2.length := by omega
          have hdb := hrbr.le
          have hmz : m = ct.sum := by have := HMV.out; rw [HLN.out, List.take_length] at this; exact this
          have HMZ := Lib.hid hmz
          clear hmz HMV
          have hu4 : Up wr wr.drew := (Up.refl _).drew
          go_wp2_with fail
          refine wp_region_tree (fun w' => Up wr w') (.alt 0 (.quiet 1 (.quiet 2 (.quiet 3 (.quiet 4 (.quiet 5 (.quiet 6 (.quiet 8 (.alt 7 (.quiet 9 (.quiet 10 (.quiet 11 (.quiet 12 (.quiet 14 (.quiet 15 (.alt 13 (.quiet 16 (.quiet 17 (.quiet 18 (.quiet 19 (.quiet 20 (.alt 21 (.quiet 22 (.quiet 23 (.quiet 24 (.quiet 26 (.quiet 27 (.quiet 28 (.quiet 29 (.quiet 30 (.quiet 31 (.quiet 32 (.alt 25 (.alt 33 (.quiet 34 (.quiet 35 (.nil))) (.stop)) (.stop)))))))))))) (.stop))))))) (.stop)))))))) (.stop))))))))) (.stop)) (by kernel_rfl) (by kernel_rfl) rfl (by kernel_rfl) (by kernel_rfl) hu4 ?_
          simp only [pickT, List.getElem?_cons_succ, List.getElem?_cons_zero, Option.getD_some]
          refine tree_do (fun K hK => ?_)
          go_wp2_with fail
          refine (law14known_calls _).mono ?_
          rintro e w5 ⟨rfl, hu5⟩
          have hu5 := hu4.trans hu5
          go_wp2_with fail
          refine ⟨hu5, ?_⟩
          repeat (refine tree_step rfl (fun K hK => ?_); go_big_quiet_step ((intro _; rfl)); refine wpQuiet_nil (hK _ ?_); clear hK K)
          refine tree_do (fun K hK => ?_)
          go_wp2_with fail
          refine (alphaLen_calls w5 (hTr.up hu5) (by rw [sums_len, HLN.out]; omega)).mono ?_
          rw [show (sums ct).getD sy.length 0 = m by rw [HLN.out, sums_last, HMZ.out]]
          rintro e w6 ⟨rfl, hq6⟩
          have hu6 := hu5.trans hq6.up
          go_wp2_with fail
          refine ⟨hu6, ?_⟩
          repeat (refine tree_step rfl (fun K hK => ?_); go_big_quiet_step ((intro _; rfl)); refine wpQuiet_nil (hK _ ?_); clear hK K)
          refine tree_do (fun K hK => ?_)
          go_wp2_with fail
          refine (alphaSigma_calls w6 (hTr.up hu6)).mono ?_
          rintro e w7 ⟨rfl, rfl⟩
          go_wp2_with fail
          refine ⟨hu6, ?_⟩
          repeat (refine tree_step rfl (fun K hK => ?_); go_big_quiet_step ((intro _; rfl)); refine wpQuiet_nil (hK _ ?_); clear hK K)
          refine tree_do (fun K hK => ?_)
          go_wp2_with fail
          refine (refSame_eq (hrrr.up hu6) (hr5r.up hu6) rfl rfl rfl).mono ?_
          rintro e w8 ⟨rfl, hq8⟩
          have hu8 := hu6.trans hq8.up
          go_wp2_with fail
          refine ⟨hu8, ?_⟩
          repeat (refine tree_step rfl (fun K hK => ?_); go_big_quiet_step ((intro _; rfl)); refine wpQuiet_nil (hK _ ?_); clear hK K)
          refine tree_do (fun K hK => ?_)
          go_wp2_with fail
          refine (alphaBytes_calls w8 (hTr.up hu8) (fun x hx => (HB2.out.2.1 x hx).1) (fun x hx => (HB3.out.2.1 x hx).1) hsl HB3.out.2.2).mono ?_
          rintro e w9 ⟨v9, rfl, hv9, hu9⟩
          obtain ⟨B9, c9, rfl, hr9⟩ := hv9.rd
          have hu9 := hu8.trans hu9
          clear hv9
          go_wp2_with fail
          refine ⟨hu9, ?_⟩
          refine tree_do (fun K hK => ?_)
          go_wp2_with fail
          refine (refSame_eq hr9 ((hrbr.take (b.length - r2.length)).up hu9) (by simp) HTL.out HTK.out.symm).mono ?_
          rintro e w10 ⟨rfl, hq10⟩
          have hu10 := hu9.trans hq10.up
          go_wp2_with fail
          refine ⟨hu10, ?_⟩
          repeat (refine tree_step rfl (fun K hK => ?_); go_big_quiet_step ((intro _; rfl)); refine wpQuiet_nil (hK _ ?_); clear hK K)
          refine tree_nil ?_
          go_wp2_with fail
          go_ret
          exact ⟨rfl, hU3.trans (hur.trans hu10)⟩
end Go.Proofs.Ytneliajeokajbaa
