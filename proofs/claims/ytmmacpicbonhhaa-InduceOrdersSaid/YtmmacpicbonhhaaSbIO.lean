/- The law InduceOrders returns true of any numbers. -/
import Derived.Test.YtmmacpicbonhhaaSbO
import Derived.Test.YtmmacpicbonhhaaSbT
import Derived.Test.YtmmacpicbonhhaaKnd16
namespace Go.Proofs.Ytmmacpicbonhhaa.SalPure
open Go.RowKit Go.Proofs.Ytmmacpicbonhhaa
set_option maxRecDepth 100000
set_option linter.unusedVariables false

theorem k16_txt : Txt [2, 1, 2, 1, 0] := (txt_iff _).1 (by kernel_rfl)
theorem k16_check (A : Option Addr) (c : Nat) (w : World) (h : Rd w .i64 A c [2, 1, 2, 1, 0]) : Hid (Calls Try.prog 45 #[.slice A ([2, 1, 2, 1, 0] : List Int).length c] w fun en w' => en = .returned (.int .i64 0) ∧ ∃ q, w' = w.drewN q) := Lib.hid (by
  have := c_check [2, 1, 2, 1, 0] (by decide) A c w h
  rwa [show chk [2, 1, 2, 1, 0] = 0 by kernel_rfl] at this)
theorem known16_calls (w : World) : Calls Try.prog 20 #[] w fun e w' => e = .returned (.bool true) ∧ Up w w' := by
  have same : ∀ (l : List Int), l.length < 1000000 → ∀ A c B d w', Rd w' .i64 A c l → Rd w' .i64 B d l → Calls Try.prog 13 #[.slice A l.length c, .slice B l.length d] w' fun e w'' => e = .returned (.bool true) ∧ ∃ q, w'' = w'.drewN q := fun l hl A c B d w' h1 h2 => by
    have := c_same l l hl A c B d w' h1 h2
    rwa [decide_eq_true (show l = l from rfl)] at this
  refine (ind16_known w (fun A c w' hr => ?_) (fun A c w' hr => ?_) (fun A c B d w' hr hr2 => ?_) (same [0, 1, 3] (by decide)) (same [1, 3, 5] (by decide)) (same [4, 3, 1, 2, 0] (by decide))).mono fun _ _ h => ⟨h.1, ⟨h.2⟩⟩
  · have := indHeads_ok A c [2, 1, 2, 1, 0] w' hr (codes_of k16_txt (by decide)).codes (k16_check A c w' hr)
    rwa [show headsL [2, 1, 2, 1, 0] = [0, 1, 3] by kernel_rfl] at this
  · have := indTails_ok A c [2, 1, 2, 1, 0] w' hr (codes_of k16_txt (by decide)).codes (k16_check A c w' hr)
    rwa [show tailsL [2, 1, 2, 1, 0] = [1, 3, 5] by kernel_rfl] at this
  · have := c_ind (x := [2, 1, 2, 1, 0]) (l := [4, 1]) k16_txt (by decide) (by rw [show firstsL [2, 1, 2, 1, 0] = [1, 4] by kernel_rfl]; exact List.Perm.swap ..) A c B d w' hr hr2
    rwa [show indL [2, 1, 2, 1, 0] [4, 1] = [4, 3, 1, 2, 0] by kernel_rfl] at this

set_option maxHeartbeats 8000000 in
theorem lawInduceOrders_calls (A : Option Addr) (c : Nat) (l : List Int) (a0 : Int) (B : Option Addr) (d : Nat) (by_ : List Int) (w : World) (h : Rd w .i64 A c l) (ha0 : InK .i64 a0) (hby : Rd w .i64 B d by_) :
    Calls Try.prog 3 #[.slice A l.length c, .int .i64 a0, .slice B by_.length d] w fun e w' => e = .returned (.bool true) ∧ Up w w' := by
  obtain ⟨x, hx, hxl, HT⟩ := c_text l a0
  have hxp := hx.pos
  go_enter Try.func3, Try.ntmps3
  go_wp2_with fail
  refine (HT A c w h ha0).mono ?_
  rintro en w1 ⟨v1, rfl, hv1, hu1⟩
  obtain ⟨A1, c1, rfl, hr1⟩ := hv1.rd
  have hb1 := hby.up hu1
  obtain ⟨b, off, rfl⟩ := hr1.plain hxp
  clear HT h hv1 hby
  go_wp2_with fail
  refine (c_refFirsts hx (by omega) _ c1 w1 hr1).mono ?_
  rintro en w2 ⟨v2, rfl, hv2, hu2⟩
  obtain ⟨A2, c2, rfl, hr2⟩ := hv2.rd
  have hfl := firstsL_len x
  have hr12 := hr1.up hu2
  have hb2 := hb1.up hu2
  replace hu2 := hu1.trans hu2
  clear hv2 hr1 hb1 hu1
  go_wp2_with fail
  refine (turn_calls A2 B c2 d (firstsL x) by_ w2 hr2 hb2 (by omega)).mono ?_
  rintro en w3 ⟨v3, ys, rfl, hp, hv3, hu3⟩
  obtain ⟨A3, c3, rfl, hr3⟩ := hv3.rd
  have hr13 := hr12.up hu3
  have hr23 := hr2.up hu3
  replace hu3 := hu2.trans hu3
  have HP := Lib.hid hp
  have hyb : ys.length ≤ 65536 := by rw [hp.length_eq]; omega
  clear hv3 hr12 hr2 hb2 hu2 hp
  go_wp2_with fail
  refine (c_ind hx (by omega) HP.out _ c1 A3 c3 w3 hr13 hr3).mono ?_
  rintro en w4 ⟨v4, rfl, hv4, hu4⟩
  have HGD := Lib.hid (good_indL hx (by omega) HP.out)
  have HOL := Lib.hid (indL_wf hx (by omega) HP.out).1
  have HOP := fun w' hr hr' => Lib.hid (c_refInd hx (by omega) HP.out (some ⟨b, off, none⟩) c1 A3 c3 w' hr hr')
  have HNS := Lib.hid (nms_same hx (by omega) HP.out)
  have hob : (indL x ys).length ≤ 65535 := by rw [HOL.out]; omega
  generalize indL x ys = o at *
  obtain ⟨A4, c4, rfl, hr4⟩ := hv4.rd
  have hr14 := hr13.up hu4
  have hr24 := hr23.up hu4
  have hr34 := hr3.up hu4
  replace hu4 := hu3.trans hu4
  clear hv4 hr13 hr23 hr3 hu3
  go_wp2_with fail
  refine ((HOP w4 hr14 hr34).out).mono ?_
  rintro en w5 ⟨v5, rfl, hv5, hu5⟩
  obtain ⟨A5, c5, rfl, hr5⟩ := hv5.rd
  have hr15 := hr14.up hu5
  have hr25 := hr24.up hu5
  have hr45 := hr4.up hu5
  replace hu5 := hu4.trans hu5
  clear hv5 hr14 hr24 hr34 hr4 hu4 HOP
  go_wp2_with fail
  refine (c_same o o (by omega) A4 c4 A5 c5 w5 hr45 hr5).mono ?_
  rintro en w6 ⟨rfl, q6, rfl⟩
  rw [decide_eq_true (show o = o from rfl)]
  have hr16 := hr15.drewN q6
  have hr26 := hr25.drewN q6
  have hr46 := hr45.drewN q6
  have hu6 := hu5.drewN q6
  generalize w5.drewN q6 = w6 at *
  clear hr15 hr25 hr45 hu5 hr5
  have HN1 := Lib.hid (c_names hx (by omega) HGD.out HOL.out _ c1 A4 c4 w6 hr16 hr46)
  have HN2 := fun w' hr hr' => Lib.hid (c_refNames hx (by omega) (some ⟨b, off, none⟩) c1 o A4 c4 w' hr hr' (by omega))
  rw [HNS.out] at HN1 HN2
  have hnn := nmAll_n x (firstsN x) o o.length (Nat.le_refl _)
  rw [List.take_length] at hnn
  generalize (nmAll x (firstsN x) o).n = nn at *
  have HCM := Lib.hid (red_cmp hx (by omega))
  have HRL := Lib.hid (red_len x)
  have hrlb : (red x).length ≤ 65535 := by rw [HRL.out]; omega
  have HRD := fun w' hr => Lib.hid (c_red hx (by omega) (some ⟨b, off, none⟩) c1 w' hr)
  have HOI := fun w' hr hr' => Lib.hid (c_refInd hx (by omega) (List.Perm.refl (firstsL x)) (some ⟨b, off, none⟩) c1 A2 c2 w' hr hr')
  have HON := fun A' c' w' hr hr' => Lib.hid (c_refNames hx (by omega) (some ⟨b, off, none⟩) c1 (indL x (firstsL x)) A' c' w' hr hr' (by rw [(indL_wf hx (by omega) (List.Perm.refl _)).1]; omega))
  rw [show nmsL x (firstsN x) (indL x (firstsL x)) = red x from rfl] at HON
  generalize (nmAll x (firstsN x) (indL x (firstsL x))).n = nn2 at *
  generalize indL x (firstsL x) = o2 at *
  have HUP := Lib.hid (firsts_ok x).up
  have HXF : Hid (∀ i ∈ firstsN x, i < x.length) := Lib.hid fun i hi => by
    obtain ⟨k, hk, rfl⟩ := List.mem_iff_getElem.1 hi
    have := ((firsts_ok x).get hk).1
    rwa [List.getD_eq_getElem?_getD, List.getElem?_eq_getElem hk] at this
  have HRG := Lib.hid hx.rng
  rw [firstsN_I] at hr26 hfl HRL HOI ⊢
  rw [List.length_map] at hfl HRL ⊢
  rw [show ((firstsN x).map Int.ofNat).length = (firstsN x).length from List.length_map ..] at HOI
  have hnl : (red x).length = (firstsN x).length := HRL.out
  generalize red x = nm at *
  have HNL := Lib.hid hnl
  clear HRL HNS HP HGD HOL hyb ha0 hnl
  generalize firstsN x = fs at *
  clear hx
  go_wp2_with fail
  refine (HN1.out).mono ?_
  rintro en w7 ⟨v7, rfl, hv7, hu7⟩
  obtain ⟨A7, c7, rfl, hr7⟩ := hv7.rd
  have hr17 := hr16.up hu7
  have hr27 := hr26.up hu7
  have hr47 := hr46.up hu7
  replace hu7 := hu6.trans hu7
  clear hv7 hr16 hr26 hr46 hu6 HN1
  go_wp2_with fail
  refine ((HN2 w7 hr17 hr47).out).mono ?_
  rintro en w8 ⟨v8, rfl, hv8, hu8⟩
  obtain ⟨A8, c8, rfl, hr8⟩ := hv8.rd
  have hr18 := hr17.up hu8
  have hr28 := hr27.up hu8
  have hr78 := hr7.up hu8
  replace hu8 := hu7.trans hu8
  clear hv8 hr17 hr27 hr47 hr7 hu7 HN2
  go_wp2_with fail
  refine (c_same nm nm (by omega) A7 c7 A8 c8 w8 hr78 hr8).mono ?_
  rintro en w9 ⟨rfl, q9, rfl⟩
  rw [decide_eq_true (show nm = nm from rfl)]
  have hr19 := hr18.drewN q9
  have hr29 := hr28.drewN q9
  have hr79 := hr78.drewN q9
  have hu9 := hu8.drewN q9
  generalize w8.drewN q9 = w9 at *
  clear hr18 hr28 hr78 hr8 hu8
  go_wp2_with fail
  go_loopw [6, 17, 18, 19] (fun _ a _ _ wr => ∃ k : Nat, k ≤ fs.length ∧ a = .int .i64 k ∧ Up w9 wr) (fun _ a _ _ _ => fs.length - (intOf a).toNat)
  case atStart => exact ⟨0, Nat.zero_le _, rfl, Up.refl _⟩
  case round =>
    obtain ⟨k, hk, rfl, hq⟩ := hrel
    by_cases hlt : k < fs.length
    · go_wp2_with fail
      go_loopw [6, 18, 19] (fun _ a _ wx => ∃ j : Nat, j ≤ fs.length ∧ a = .int .i64 j ∧ Up w9 wx) (fun _ a _ _ => fs.length - (intOf a).toNat)
      case atStart => exact ⟨0, Nat.zero_le _, rfl, hq⟩
      case round =>
        clear hq
        obtain ⟨j, hj, rfl, hq⟩ := hrel
        by_cases hlj : j < fs.length
        · have hrx := hr19.up hq
          have hrf := hr29.up hq
          have HCK := Lib.hid (HCM.out k j hlt hlj)
          obtain ⟨ad, na, rfl, hca, HNA, _⟩ := (hr79.up hq).get k (by have := HNL.out; omega)
          obtain ⟨ad', nb, e, hcb, HNB, _⟩ := (hr79.up hq).get j (by have := HNL.out; omega)
          cases e
          rw [HNA.out, HNB.out] at HCK
          have hkn : k < nm.length ∧ j < nm.length := by have := HNL.out; omega
          have HQ := Lib.hid hq
          clear hq
          go_wp2_with fail
          refine (refPiece_calls b off c1 x A2 c2 fs k wr hrx hrf (by omega) (by omega) hlt HUP HXF).mono ?_
          rintro en w10 ⟨⟨B1, cb1, rfl, hp1⟩, q1, rfl⟩
          go_wp2_with fail
          refine (refPiece_calls b off c1 x A2 c2 fs j (wr.drewN q1) (hrx.drewN q1) (hrf.drewN q1) (by omega) (by omega) hlj HUP HXF).mono ?_
          rintro en w10 ⟨⟨B2, cb2, rfl, hp2⟩, q2, rfl⟩
          have hpl1 := piece_le x fs k
          have hpl2 := piece_le x fs j
          have HPR := Lib.hid (And.intro (piece_rng x fs k HRG.out) (piece_rng x fs j HRG.out))
          have hq1 : Rd (wr.drewN (q1 + q2)) .i64 B1 cb1 (Ind.pieceN x fs k) := hp1.drewN _
          have hq2 : Rd (wr.drewN (q1 + q2)) .i64 B2 cb2 (Ind.pieceN x fs j) := by rw [← World.drewN_drewN]; exact hp2.drewN _
          have HCP := Lib.hid (refComp_calls B1 B2 cb1 cb2 _ _ _ hq1 hq2 (by omega) (by omega) (Lib.hid HPR.out.1) (Lib.hid HPR.out.2))
          clear hp1 hp2 hpl1 hpl2 hq1 hq2 hrx hrf
          generalize cmpV (Ind.pieceN x fs k) (Ind.pieceN x fs j) = cv at *
          go_wp2_with fail
          refine (HCP.out).mono ?_
          rintro en w10 ⟨rfl, q3, rfl⟩
          clear HCP
          by_cases hc : cv < 0
          · have hn := HCK.out.1 hc
            go_wp2_with fail
            go_quiet (fail)
            go_wp2_with fail
            refine ⟨⟨j + 1, by omega, by simp, by first | exact HQ.out.drewN _ | exact (HQ.out.drewN _).drewN _ | exact ((HQ.out.drewN _).drewN _).drewN _⟩, ?_⟩
            simp [intOf]; omega
          · have hn : ¬ na < nb := fun h => hc (HCK.out.2 h)
            have hc1 : decide (cv < 0) = false := decide_eq_false hc
            have hn1 : decide (na < nb) = false := decide_eq_false hn
            have hc2 : 0 ≤ cv := by omega
            have hn2 : nb ≤ na := by omega
            clear hc hn
            go_wp2_with fail
            go_quiet (fail)
            go_wp2_with fail
            refine ⟨⟨j + 1, by omega, by simp, by first | exact HQ.out.drewN _ | exact (HQ.out.drewN _).drewN _ | exact ((HQ.out.drewN _).drewN _).drewN _⟩, ?_⟩
            simp [intOf]; omega
        · have hje : j = fs.length := by omega
          have HQ := Lib.hid hq
          clear hq
          go_wp2_with fail
          refine ⟨⟨k + 1, by omega, by simp, HQ.out⟩, ?_⟩
          simp [intOf]; omega
    · have hke : k = fs.length := by omega
      have hrx := hr19.up hq
      have hrf := hr29.up hq
      have hrn := hr79.up hq
      have HU := Lib.hid (hu9.trans hq)
      clear hr19 hr29 hr79 hu9 hq HCM HUP HXF
      go_wp2_with fail
      refine ((HRD wr hrx).out).mono ?_
      rintro en w10 ⟨v10, rfl, hv10, hu10⟩
      obtain ⟨A10, c10, rfl, hr10⟩ := hv10.rd
      have hrx2 := hrx.up hu10
      have hrf2 := hrf.up hu10
      have hrn2 := hrn.up hu10
      have HU2 := Lib.hid (HU.out.trans hu10)
      clear hv10 hrx hrf hrn hu10 HRD HU
      go_wp2_with fail
      refine ((HOI w10 hrx2 hrf2).out).mono ?_
      rintro en w11 ⟨v11, rfl, hv11, hu11⟩
      obtain ⟨A11, c11, rfl, hr11⟩ := hv11.rd
      have hrx3 := hrx2.up hu11
      have hrn3 := hrn2.up hu11
      have hr3r := hr10.up hu11
      have HU3 := Lib.hid (HU2.out.trans hu11)
      clear hv11 hrx2 hrf2 hrn2 hu11 hr10 HOI HU2
      go_wp2_with fail
      refine ((HON A11 c11 w11 hrx3 hr11).out).mono ?_
      rintro en w12 ⟨v12, rfl, hv12, hu12⟩
      obtain ⟨A12, c12, rfl, hr12⟩ := hv12.rd
      have hrn4 := hrn3.up hu12
      have hr4r := hr3r.up hu12
      have HU4 := Lib.hid (HU3.out.trans hu12)
      clear hv12 hrx3 hrn3 hr3r hr11 hu12 HON HU3
      go_wp2_with fail
      refine (known16_calls w12).mono ?_
      rintro en w13 ⟨rfl, hu13⟩
      have hrn5 := hrn4.up hu13
      have hr5r := hr4r.up hu13
      have hr125 := hr12.up hu13
      have HU5 := Lib.hid (HU4.out.trans hu13)
      clear hrn4 hr4r hr12 hu13 HU4
      go_wp2_with fail
      refine (c_same nm nm (by omega) A10 c10 A12 c12 w13 hr5r hr125).mono ?_
      rintro en w14 ⟨rfl, q14, rfl⟩
      rw [decide_eq_true (show nm = nm from rfl)]
      have hrn6 := hrn5.drewN q14
      have hr6r := hr5r.drewN q14
      have HU6 := Lib.hid (HU5.out.drewN q14)
      generalize w13.drewN q14 = w14 at *
      clear hrn5 hr5r hr125 HU5
      go_wp2_with fail
      refine (c_same nm nm (by omega) A10 c10 A7 c7 w14 hr6r hrn6).mono ?_
      rintro en w15 ⟨rfl, q15, rfl⟩
      rw [decide_eq_true (show nm = nm from rfl)]
      have HU7 := Lib.hid (HU6.out.drewN q15)
      go_wp2_with fail
      go_ret
      exact ⟨rfl, HU7.out⟩
end Go.Proofs.Ytmmacpicbonhhaa.SalPure
namespace Go.Proofs.Ytmmacpicbonhhaa
open Go.RowKit
theorem lawInduceOrders_calls (A : Option Addr) (c : Nat) (l : List Int) (a0 : Int) (B : Option Addr) (d : Nat) (by_ : List Int) (w : World) (h : Rd w .i64 A c l) (ha0 : InK .i64 a0) (hby : Rd w .i64 B d by_) :
    Calls Try.prog 3 #[.slice A l.length c, .int .i64 a0, .slice B by_.length d] w fun e w' => e = .returned (.bool true) ∧ Up w w' := SalPure.lawInduceOrders_calls A c l a0 B d by_ w h ha0 hby
end Go.Proofs.Ytmmacpicbonhhaa
