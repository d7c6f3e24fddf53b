/- Layer 4: the law FrameDevices. -/
import Derived.Test.YtehdigkjbobndaaFrmDv
import Derived.Test.YtehdigkjbobndaaFrmKnown
import Derived.Test.YtehdigkjbobndaaTreeR
import Derived.Test.YtehdigkjbobndaaDevMB
namespace Go.Proofs.Ytehdigkjbobndaa
open Go.RowKit Go.Proofs.Ytehdigkjbobndaa.FrmVPure
set_option maxRecDepth 100000

theorem frmDec_zero : frmDec (List.replicate 256 0) = (0, 0, 0, [], 5) := by kernel_rfl
theorem u64_mod20 (x : Int) : ∃ i : Nat, i < 20 ∧ (IntKind.u64.wrap x).tmod 20 = (i : Int) := by
  have h : 0 ≤ IntKind.u64.wrap x := by rw [IntKind.wrap_u64]; omega
  rw [Int.tmod_eq_emod_of_nonneg h]
  exact ⟨((IntKind.u64.wrap x) % 20).toNat, by omega, by omega⟩
/-- What is wrong with a frame on so many pages. -/
def wantD (P : Nat) (k e p : Int) (b : List Int) : Int := if frmCheck k e p b = 0 then (if (P : Int) ≤ p then 10 else 0) else frmCheck k e p b
theorem frmWriteR_new (P : Nat) (k e p : Int) (b : List Int) : frmWriteR (newS (zeroPg P)) k e p b = wantD P k e p b := by
  unfold frmWriteR wantD
  split
  · rename_i hc
    have hok := (frmCheck_iff _ _ _ _).1 hc
    have hl := frmEnc_len (k := k) (e := e) (p := p) hok.lb
    have hz : (zeroPg P).length = P := by simp [zeroPg]
    unfold devWriteR
    by_cases hp : (P : Int) ≤ p
    · have he : devErr (newS (zeroPg P)) p = 10 := by
        unfold devErr
        rw [if_neg (by simp [newS]), if_pos (by show p < 0 ∨ ((zeroPg P).length : Int) ≤ p; rw [hz]; omega)]
      rw [he, if_pos (by decide), if_pos hp]
    · have he : devErr (newS (zeroPg P)) p = 0 := devErr_ok rfl hok.p0 (by show p < ((zeroPg P).length : Int); rw [hz]; omega)
      rw [he, if_neg (by simp), if_neg (by rw [hl]; simp), if_pos (by rfl), if_neg hp]
  · rfl
theorem frmReadR_zero {P : Nat} {page : Int} (h : 0 ≤ page ∧ page < (P : Int)) (ks : List Int) : frmReadR (newS (zeroPg P)) page ks = (0, 0, 0, [], 5) := by
  obtain ⟨i, rfl⟩ := Int.eq_ofNat_of_zero_le h.1
  have hl : (zeroPg P).length = P := by simp [zeroPg]
  have he : devErr (newS (zeroPg P)) (i : Int) = 0 := devErr_ok rfl (by omega) (by show (i : Int) < ((zeroPg P).length : Int); rw [hl]; omega)
  have hd : devSees (newS (zeroPg P)) i = List.replicate 256 0 := by
    rw [calm_sees rfl]
    show (zeroPg P).getD i [] = _
    unfold zeroPg
    rw [List.getD_eq_getElem?_getD, List.getElem?_eq_getElem (by simp; omega)]
    simp
  unfold frmReadR
  rw [if_pos he, Int.toNat_natCast, hd, frmDec_zero]
  rfl
theorem frmReadR_out {s : DSt} {page : Int} (ho : s.off = false) (h : ¬ (0 ≤ page ∧ page < (s.pg.length : Int))) (ks : List Int) : frmReadR s page ks = (0, 0, 0, [], 10) ∧ devErr s page = 10 := by
  have he : devErr s page = 10 := by
    unfold devErr
    rw [if_neg (by rw [ho]; simp), if_pos (by omega)]
  unfold frmReadR
  rw [he, if_neg (by decide)]
  exact ⟨rfl, rfl⟩
set_option maxHeartbeats 4000000 in
theorem lawFrameDevices_calls (pages k e p : Int) (A : Option Addr) (c : Nat) (b0 : List Int) (page : Int) (A2 : Option Addr) (c2 : Nat) (ks0 : List Int) (w : World) (h : Rd w .u8 A c b0) (h2 : Rd w .i64 A2 c2 ks0) :
    Calls Try.prog 11 #[.int .i64 pages, .agg #[.int .i64 k, .int .i64 e, .int .i64 p, .slice A b0.length c], .int .i64 page, .slice A2 ks0.length c2] w fun en w' => en = .returned (.bool true) ∧ Up w w' := by
  obtain ⟨i, hi, hm20⟩ := u64_mod20 pages
  have hu0 : Up w (w.alloc (.cells #[.int .i64 k, .int .i64 e, .int .i64 p, .slice A b0.length c] 66)) := (Up.refl w).alloc _
  have hB0 := Blk.new w 66 #[.int .i64 k, .int .i64 e, .int .i64 p, .slice A b0.length c]
  have q0 := hB0.cell 0
  have q1 := hB0.cell 1
  have q2 := hB0.cell 2
  have q3 := hB0.cell 3
  simp only [List.getElem?_toArray, List.getElem?_cons_succ, List.getElem?_cons_zero] at q0 q1 q2 q3
  have HN := fun w9 => Lib.hid (devNew_ok (1 + i) w9 (by omega) (by omega))
  go_enter Try.func11, Try.ntmps11
  go_wp2_with fail
  rw [show ((1 : Int) + (i : Int)) = ((1 + i : Nat) : Int) by omega]
  refine ((HN _).out).mono ?_
  intro en w1 hm
  obtain ⟨g, S, rfl, hdi, hu1, hS⟩ := hm.out
  have HDI := Lib.hid hdi
  have HSB := Lib.hid (fun b hb => (⟨by have := hS b hb; have := hu0.size; omega, hdi.lt b hb⟩ : w.heap.size ≤ b ∧ b < w1.heap.size))
  have hU1 := hu0.trans hu1
  have hb1 := hB0.up hu1
  replace q0 := hu1.cell q0
  replace q1 := hu1.cell q1
  replace q2 := hu1.cell q2
  replace q3 := hu1.cell q3
  have HTO := Lib.hid (to4_calls k e p A c b0 w1 (h.up hU1))
  clear hm hdi hu1 hS HN hB0 hu0 h
  generalize hP : 1 + i = P at *
  have hi1 : 1 ≤ P := by omega
  have HPB := Lib.hid (show P ≤ 20 by omega)
  clear hP hm20 hi
  go_wp2_with fail
  refine (HTO.out).mono ?_
  rintro en w2 ⟨v, rfl, hv, hu2⟩
  have HV := Lib.hid hv
  obtain ⟨B, d, rfl, hrb⟩ := hv.rd
  have hb250 : (b0.take 250).length ≤ 250 := List.length_take_le _ _
  generalize b0.take 250 = b at *
  have HDI2 := Lib.hid (HDI.out.up hu2)
  have hU2 := hU1.trans hu2
  have hz := Blk.new w2 67 #[.int .i64 0, .int .i64 0, .int .i64 0, .slice none 0 0]
  have z0 := hz.cell 0
  have z1 := hz.cell 1
  have z2 := hz.cell 2
  have z3 := hz.cell 3
  simp only [List.getElem?_toArray, List.getElem?_cons_succ, List.getElem?_cons_zero] at z0 z1 z2 z3
  have y0 := hz.frozen 0
  have y1 := hz.frozen 1
  have y2 := hz.frozen 2
  have y3 := hz.frozen 3
  have hux : Up w2 (w2.alloc (.cells #[.int .i64 k, .int .i64 e, .int .i64 p, .slice B b.length d] 67)) := (Up.refl w2).alloc _
  have hx3 := Blk.new w2 67 #[.int .i64 k, .int .i64 e, .int .i64 p, .slice B b.length d]
  have HDI3 := Lib.hid (HDI2.out.up hux)
  have HRB3 := Lib.hid (hrb.up hux)
  have hU3 := hU2.trans hux
  have hks : Rd w .i64 A2 c2 (ks0.take 9) := h2.take 9
  have hksl : (ks0.take 9).length ≤ 9 := List.length_take_le _ _
  obtain ⟨m, hm⟩ : ∃ m, (ks0.take 9).length = m := ⟨_, rfl⟩
  have hm0 : m = min ks0.length 9 := by rw [← hm, List.length_take]; omega
  have hlc2 := h2.le
  have hmx2 := h2.mx
  have HKS := Lib.hid hks
  have HKM := Lib.hid hm
  have hsz2 : w1.heap.size ≤ w2.heap.size := hu2.size
  have hsz3 : (w2.alloc (.cells #[.int .i64 k, .int .i64 e, .int .i64 p, .slice B b.length d] 67)).heap.size = w2.heap.size + 1 := by simp
  generalize ks0.take 9 = ks at *
  clear HTO HDI HDI2 hv hu2 hU1 hb1 q0 q1 q2 q3 hrb h2 hks hm hU2
  go_upto_region 6 with fail
  clear hz z0 z1 z2 z3 y0 y1 y2 y3
  generalize (w2.alloc (.cells #[.int .i64 k, .int .i64 e, .int .i64 p, .slice B b.length d] 67)) = w3 at *
  go_cut [3] (fun v wx => v = .slice A2 m c2 ∧ w3 = wx)
  case first =>
    by_cases h9 : (9 : Int) < (ks0.length : Int)
    · have HE := Lib.hid (show 9 = m by omega)
      clear hm0
      go_wp2_with fail
      go_meet
      exact ⟨by rw [HE.out], rfl⟩
    · have HE := Lib.hid (show ks0.length = m by omega)
      clear hm0
      go_wp2_with fail
      go_meet
      exact ⟨by rw [HE.out], rfl⟩
  case rest =>
    obtain ⟨rfl, rfl⟩ := hcut
    have hmk : m ≤ 9 := by rw [← HKM.out]; exact hksl
    clear hm0 hlc2 hmx2 hksl
    have p0 := hx3.cell 0
    have p1 := hx3.cell 1
    have p2 := hx3.cell 2
    have p3 := hx3.cell 3
    simp only [List.getElem?_toArray, List.getElem?_cons_succ, List.getElem?_cons_zero] at p0 p1 p2 p3
    have HW := Lib.hid (frmWrite_calls g S (newS (zeroPg P)) k e p B d b w3 HDI3.out HRB3.out (by show (0 : Nat) < 1000000000000; decide))
    rw [frmWriteR_new] at HW
    go_wp2_with fail
    refine (HW.out).mono ?_
    rintro en w4 ⟨rfl, hdt⟩
    obtain ⟨S', hd4, hx4, hS4⟩ := hdt.out
    have HD4 := Lib.hid hd4
    have hSge : ∀ q, S q → w.heap.size ≤ q ∧ q < w1.heap.size := HSB.out
    have HS4 := Lib.hid (show ∀ q, S' q → w.heap.size ≤ q ∧ q ≠ w2.heap.size ∧ (∀ ad, B = some ad → q ≠ ad.block) from fun q hq => by
      have hw3 := hU3.size
      rcases hS4 q hq with h9 | h9
      · have := hSge q h9
        exact ⟨this.1, by omega, fun ad e9 e8 => by have := (HV.out.blk ad e9).1; omega⟩
      · exact ⟨by omega, by omega, fun ad e9 e8 => by have := (HV.out.blk ad e9).2; omega⟩)
    have hv4 := (HV.out.up hux).upx hx4 (fun q hq hs => by
      have := hSge q hs
      have := (HV.out.lt q hq).1
      omega)
    have hxb4 := hx3.upx hx4 (fun hs => by have := hSge _ hs; omega)
    have HU4 := Lib.hid (hU3.thenx hx4 fun j hj hs => by have := hSge j hs; omega)
    have HOF := Lib.hid (of4_calls k e p B d w1.heap.size b w4 hv4)
    have HV4 := Lib.hid hv4
    have HX4 := Lib.hid hxb4
    have hgx : w2.heap.size < w4.heap.size := hxb4.lt
    clear hdt hd4 hx4 hS4 hv4 HW HDI3 HRB3 hx3 p0 p1 p2 p3
    generalize w2.heap.size = gx at *
    have p0 := HX4.out.cell 0
    have p1 := HX4.out.cell 1
    have p2 := HX4.out.cell 2
    have p3 := HX4.out.cell 3
    simp only [List.getElem?_toArray, List.getElem?_cons_succ, List.getElem?_cons_zero] at p0 p1 p2 p3
    clear hxb4 HV hux hU3 hsz3 hsz2 hSge
    go_wp2_with fail
    refine (HOF.out).mono ?_
    rintro en w5 ⟨B5, d5, rfl, hr5, hu5⟩
    have HCK := Lib.hid (ref4Check_calls k e p B5 d5 b w5 hr5)
    clear HOF hr5
    go_wp2_with fail
    refine (HCK.out).mono ?_
    rintro en w6 ⟨rfl, hu6⟩
    have hU6 := hu5.trans hu6
    have HD6 := Lib.hid (HD4.out.up hU6)
    have HV6 := Lib.hid (HV4.out.up hU6)
    have HX6 := Lib.hid (HX4.out.up hU6)
    have HU6 := Lib.hid (HU4.out.trans hU6)
    have hgx6 := hU6.size
    replace p0 := hU6.cell p0
    replace p1 := hU6.cell p1
    replace p2 := hU6.cell p2
    replace p3 := hU6.cell p3
    clear HCK hu5 hu6 hU6 HD4 HV4 HX4 HU4
    have HKS6 := Lib.hid (HKS.out.up HU6.out)
    have HAB := Lib.hid (show ∀ ad, A2 = some ad → 0 < ks.length → ¬ S' ad.block from fun ad e9 h9 hs => by
      have := HKS.out.lt ad e9 h9
      have := (HS4.out _ hs).1
      omega)
    have hSG := (HD6.out.sg)
    have hgg : gx ≠ g := fun e9 => (HS4.out _ hSG).2.1 e9.symm
    by_cases hc : frmCheck k e p b = 0
    · by_cases hp : (P : Int) ≤ p
      · have hs1 : frmWriteS (newS (zeroPg P)) k e p b = newS (zeroPg P) := by
          unfold frmWriteS devWriteS
          rw [if_pos hc, if_pos (.inl (show devErr (newS (zeroPg P)) p ≠ 0 by
            unfold devErr
            rw [if_neg (by simp [newS]), if_pos (by show p < 0 ∨ ((zeroPg P).length : Int) ≤ p; simp [zeroPg]; omega)]
            decide))]
        have hwd : wantD P k e p b = 10 := by unfold wantD; rw [if_pos hc, if_pos hp]
        rw [hs1] at HD6
        rw [hc, hwd]
        clear hs1 hwd hc
        have HR := Lib.hid (frmRead_calls g S' _ page A2 c2 ks w6 HD6.out HKS6.out (by rw [HKM.out]; omega) (by show (0 : Nat) < 1000000000000; decide) HAB.out)
        rw [HKM.out] at HR
        go_wp2_with fail
        refine (HR.out).mono ?_
        intro en w7 hf
        obtain ⟨v7, rfl, hv7, hd7, hx7⟩ := hf.out
        have HX7 := Lib.hid (HX6.out.upx hx7 hgg)
        have HU7 := Lib.hid (HU6.out.thenx hx7 fun j hj e9 => by subst e9; have := (HS4.out _ hSG).1; omega)
        have hsz7 := hx7.size
        by_cases hin : 0 ≤ page ∧ page < (P : Int)
        · skip
          have hr := frmReadR_zero hin ks
          rw [hr] at hv7 ⊢
          obtain ⟨B7, d7, rfl, _⟩ := hv7.rd
          have hz := Blk.new w7 67 #[.int .i64 0, .int .i64 0, .int .i64 0, .slice none 0 0]
          have z0 := hz.cell 0
          have z1 := hz.cell 1
          have z2 := hz.cell 2
          have z3 := hz.cell 3
          simp only [List.getElem?_toArray, List.getElem?_cons_succ, List.getElem?_cons_zero] at z0 z1 z2 z3
          have y0 := hz.frozen 0
          have y1 := hz.frozen 1
          have y2 := hz.frozen 2
          have y3 := hz.frozen 3
          have hux7 : Up w7 (w7.alloc (.cells #[.int .i64 0, .int .i64 0, .int .i64 0, .slice B7 0 d7] 67)) := (Up.refl w7).alloc _
          have r0 := (HX7.out.up hux7).cell 0
          have r1 := (HX7.out.up hux7).cell 1
          have r2 := (HX7.out.up hux7).cell 2
          have r3 := (HX7.out.up hux7).cell 3
          simp only [List.getElem?_toArray, List.getElem?_cons_succ, List.getElem?_cons_zero] at r0 r1 r2 r3
          clear p0 p1 p2 p3
          have hn1 : decide (page < 0) = false := decide_eq_false (by omega)
          have hn2 : decide ((P : Int) ≤ page) = false := decide_eq_false (by omega)
          have hn3 : page < (P : Int) := hin.2
          have hn4 : 0 ≤ page := hin.1
          clear hin hr hv7 hd7 hx7 hf HR HX7 HU6 HX6 HD6 HV6 HKS6
          dsimp only [List.length_nil]
          go_wp2_with fail
          refine (frmKnown_calls _).mono ?_
          rintro en w8 ⟨rfl, hu8⟩
          go_wp2_with fail
          go_ret
          exact ⟨rfl, (HU7.out.trans hux7).trans hu8⟩
        · skip
          have hr := (frmReadR_out (s := newS (zeroPg P)) rfl (by show ¬ (0 ≤ page ∧ page < ((zeroPg P).length : Int)); simpa [zeroPg] using hin) ks).1
          rw [hr] at hv7 ⊢
          obtain ⟨B7, d7, rfl, _⟩ := hv7.rd
          have hz := Blk.new w7 67 #[.int .i64 0, .int .i64 0, .int .i64 0, .slice none 0 0]
          have z0 := hz.cell 0
          have z1 := hz.cell 1
          have z2 := hz.cell 2
          have z3 := hz.cell 3
          simp only [List.getElem?_toArray, List.getElem?_cons_succ, List.getElem?_cons_zero] at z0 z1 z2 z3
          have y0 := hz.frozen 0
          have y1 := hz.frozen 1
          have y2 := hz.frozen 2
          have y3 := hz.frozen 3
          have hux7 : Up w7 (w7.alloc (.cells #[.int .i64 0, .int .i64 0, .int .i64 0, .slice B7 0 d7] 67)) := (Up.refl w7).alloc _
          clear hr hv7 hd7 hx7 hf HR HX7 HU6 HX6 HD6 HV6 HKS6
          dsimp only [List.length_nil]
          by_cases h0 : page < 0
          · skip
            go_wp2_with fail
            refine (frmKnown_calls _).mono ?_
            rintro en w8 ⟨rfl, hu8⟩
            go_wp2_with fail
            go_ret
            exact ⟨rfl, (HU7.out.trans hux7).trans hu8⟩
          · have hn1 : decide (page < 0) = false := decide_eq_false h0
            have hn2 : (P : Int) ≤ page := by omega
            go_wp2_with fail
            refine (frmKnown_calls _).mono ?_
            rintro en w8 ⟨rfl, hu8⟩
            go_wp2_with fail
            go_ret
            exact ⟨rfl, (HU7.out.trans hux7).trans hu8⟩
      · have hp2 : p < (P : Int) := by omega
        have hpd : decide ((P : Int) ≤ p) = false := decide_eq_false hp
        have hwd : wantD P k e p b = 0 := by unfold wantD; rw [if_pos hc, if_neg hp]
        rw [hc, hwd]
        have hok := (frmCheck_iff _ _ _ _).1 hc
        obtain ⟨q, rfl⟩ := Int.eq_ofNat_of_zero_le hok.p0
        have hel := frmEnc_len (k := k) (e := e) (p := (q : Int)) hok.lb
        have hzl : (zeroPg P).length = P := by simp [zeroPg]
        have hcalm : Calm (newS (zeroPg P)) P := ⟨rfl, rfl, hzl⟩
        have hs1 : frmWriteS (newS (zeroPg P)) k e (q : Int) b = { newS (zeroPg P) with left := wrap64 (0 - 1), wr := 1, wt := fun z => if z = (q : Int) then [frmEnc k e q b] else [] } := by
          unfold frmWriteS
          rw [if_pos hc, hcalm.writeS (by omega) hel]
          rfl
        have hdec : frmDec (frmEnc k e (q : Int) b) = (k, e, (q : Int), b, 0) := frmDec_enc hok (fun x hx => (HV6.out.wf x hx).u8)
        have HS1 := Lib.hid (show (frmWriteS (newS (zeroPg P)) k e (q : Int) b).off = false ∧ (frmWriteS (newS (zeroPg P)) k e (q : Int) b).pg = zeroPg P ∧ (frmWriteS (newS (zeroPg P)) k e (q : Int) b).rd = 0 ∧ devSees (frmWriteS (newS (zeroPg P)) k e (q : Int) b) q = frmEnc k e q b ∧ ∀ z : Nat, z ≠ q → devSees (frmWriteS (newS (zeroPg P)) k e (q : Int) b) z = (zeroPg P).getD z [] by
          rw [hs1]
          refine ⟨rfl, rfl, rfl, ?_, fun z hz => ?_⟩
          · unfold devSees
            simp
          · unfold devSees
            simp only
            rw [if_neg (show ¬ ((z : Int) = (q : Int)) by omega), if_pos rfl]
            rfl)
        generalize frmWriteS (newS (zeroPg P)) k e (q : Int) b = s1 at *
        clear hs1 hcalm hwd
        have hrd0 : s1.rd = 0 := HS1.out.2.2.1
        have HRD0 := Lib.hid hrd0
        clear hrd0
        have HR := Lib.hid (frmRead_calls g S' _ page A2 c2 ks w6 HD6.out HKS6.out (by rw [HKM.out]; omega) (by rw [HRD0.out]; decide) HAB.out)
        rw [HKM.out] at HR
        go_wp2_with fail
        refine (HR.out).mono ?_
        intro en w7 hf
        obtain ⟨v7, rfl, hv7, hd7, hx7⟩ := hf.out
        have HX7 := Lib.hid (HX6.out.upx hx7 hgg)
        have HU7 := Lib.hid (HU6.out.thenx hx7 fun j hj e9 => by subst e9; have := (HS4.out _ hSG).1; omega)
        have hsz7 := hx7.size
        by_cases hin : 0 ≤ page ∧ page < (P : Int)
        · obtain ⟨z, rfl⟩ := Int.eq_ofNat_of_zero_le hin.1
          have he0 : devErr s1 (z : Int) = 0 := devErr_ok HS1.out.1 (by omega) (by rw [HS1.out.2.1, hzl]; omega)
          by_cases hpq : z = q
          · subst hpq
            have hr : frmReadR s1 (z : Int) ks = openD (frmDec (frmEnc k e (z : Int) b)) (z : Int) ks := by
              unfold frmReadR
              rw [if_pos he0, Int.toNat_natCast, HS1.out.2.2.2.1]
            rw [hr] at hv7 ⊢
            have HRB7 := Lib.hid (show Rd w7 .u8 B d b from by
              obtain ⟨_, _, e9, h9⟩ := HV6.out.rd
              injection e9 with e1 _ e3
              subst e1 e3
              exact h9.upx hx7 (fun ad e9 _ e8 => (HS4.out _ hSG).2.2 ad e9 e8.symm))
            have hOp := fun w9 A9 d9 h9 => ref4Open_calls A9 d9 (frmEnc k e (z : Int) b) 0 (z : Int) A2 c2 ks w9 h9
            have HEL := Lib.hid hel
            have hEn := fun w9 h9 => frmEncode_calls k e (z : Int) B d b w9 h9 hok
            have hdl := open_len (frmEnc k e (z : Int) b) (z : Int) ks
            generalize openD (frmDec (frmEnc k e (z : Int) b)) (z : Int) ks = r at *
            have hrl : r.2.2.2.1.length ≤ 238 := hdl
            obtain ⟨a1, a2, a3, a4, a5⟩ := r
            have hb4 : a4.length ≤ 238 := hrl
            clear hrl hdl
            simp only at hv7 hOp
            dsimp only
            generalize frmEnc k e (z : Int) b = L at *
            obtain ⟨B7, d7, rfl, hr7⟩ := hv7.rd
            have hz := Blk.new w7 67 #[.int .i64 0, .int .i64 0, .int .i64 0, .slice none 0 0]
            have z0 := hz.cell 0
            have z1 := hz.cell 1
            have z2 := hz.cell 2
            have z3 := hz.cell 3
            simp only [List.getElem?_toArray, List.getElem?_cons_succ, List.getElem?_cons_zero] at z0 z1 z2 z3
            have y0 := hz.frozen 0
            have y1 := hz.frozen 1
            have y2 := hz.frozen 2
            have y3 := hz.frozen 3
            have hux7 : Up w7 (w7.alloc (.cells #[.int .i64 a1, .int .i64 a2, .int .i64 a3, .slice B7 a4.length d7] 67)) := (Up.refl w7).alloc _
            have hbz := Blk.new w7 67 #[.int .i64 a1, .int .i64 a2, .int .i64 a3, .slice B7 a4.length d7]
            have r0 := (HX7.out.up hux7).cell 0
            have r1 := (HX7.out.up hux7).cell 1
            have r2 := (HX7.out.up hux7).cell 2
            have r3 := (HX7.out.up hux7).cell 3
            simp only [List.getElem?_toArray, List.getElem?_cons_succ, List.getElem?_cons_zero] at r0 r1 r2 r3
            have HEN := Lib.hid (hEn _ (HRB7.out.up hux7))
            have hn1 : decide ((z : Int) < 0) = false := decide_eq_false (by omega)
            have hn2 : decide ((P : Int) ≤ (z : Int)) = false := decide_eq_false (by omega)
            have hn3 : (z : Int) < (P : Int) := hin.2
            have hn4 : ((z : Int) != (z : Int)) = false := by simp
            have HOP := Lib.hid hOp
            have HV7 := Lib.hid (hv7.up hux7)
            have HKS7 := Lib.hid (HKS.out.up (HU7.out.trans hux7))
            have HUZ := Lib.hid (HU7.out.trans hux7)
            clear p0 p1 p2 p3 hin hr hv7 hd7 hx7 hf HR HU6 HX6 HD6 HV6 HKS6 hdec hok hc hel he0 hOp hEn hr7 HRB7 HU7 HX7
            go_upto_region 18 with fail
            clear hz z0 z1 z2 z3 y0 y1 y2 y3
            generalize (w7.alloc (.cells #[.int .i64 a1, .int .i64 a2, .int .i64 a3, .slice B7 a4.length d7] 67)) = w8 at *
            go_wp2_with fail
            refine (HEN.out).mono ?_
            intro en w9 hp9
            obtain ⟨v9, rfl, hv9, hu9⟩ := hp9.out
            obtain ⟨B9, d9, rfl, _⟩ := hv9.rd
            have HOC := Lib.hid (HOP.out w9 B9 d9 (hv9.mono (Nat.zero_le _)) (HKS7.out.up hu9) (by rw [HKM.out]; omega))
            rw [HEL.out, HKM.out] at HOC
            rw [HEL.out]
            have hbz9 := hbz.up hu9
            have HV9 := Lib.hid (HV7.out.up hu9)
            have HU9 := Lib.hid (HUZ.out.trans hu9)
            clear hp9 hv9 hu9 HEN HOP HV7 HKS7 HUZ hbz r0 r1 r2 r3
            go_wp2_with fail
            refine (HOC.out).mono ?_
            intro en w10 hp10
            obtain ⟨B10, d10, rfl, hr10, hu10⟩ := hp10.out
            simp only at hr10
            dsimp only
            have hz := Blk.new w10 66 #[.int .i64 0, .int .i64 0, .int .i64 0, .slice none 0 0]
            have z0 := hz.cell 0
            have z1 := hz.cell 1
            have z2 := hz.cell 2
            have z3 := hz.cell 3
            simp only [List.getElem?_toArray, List.getElem?_cons_succ, List.getElem?_cons_zero] at z0 z1 z2 z3
            have y0 := hz.frozen 0
            have y1 := hz.frozen 1
            have y2 := hz.frozen 2
            have y3 := hz.frozen 3
            have hux10 : Up w10 (w10.alloc (.cells #[.int .i64 a1, .int .i64 a2, .int .i64 a3, .slice B10 a4.length d10] 66)) := (Up.refl w10).alloc _
            have hbw := Blk.new w10 66 #[.int .i64 a1, .int .i64 a2, .int .i64 a3, .slice B10 a4.length d10]
            have hbz10 := (hbz9.up hu10).up hux10
            have HV10 := Lib.hid ((HV9.out.up hu10).up hux10)
            have HR10 := Lib.hid (hr10.up hux10)
            have HU10 := Lib.hid ((HU9.out.trans hu10).trans hux10)
            clear hp10 hr10 hu10 HOC hbz9 HV9 HU9 hux10
            go_upto_region 20 with fail
            clear hz z0 z1 z2 z3 y0 y1 y2 y3
            generalize (w10.alloc (.cells #[.int .i64 a1, .int .i64 a2, .int .i64 a3, .slice B10 a4.length d10] 66)) = w11 at *
            have hud : Up w11 w11.drew := (Up.refl w11).drew
            go_wp2_with fail
            refine wp_region_tree (fun w' => Up w11 w') (.alt 0 (.quiet 1 (.quiet 2 (.quiet 3 (.quiet 4 (.quiet 5 (.quiet 6 (.quiet 7 (.quiet 9 (.alt 8 (.alt 10 (.quiet 11 (.quiet 12 (.nil))) (.stop)) (.stop)))))))))) (.stop)) (by kernel_rfl) (by kernel_rfl) rfl (by kernel_rfl) (by kernel_rfl) ((Up.refl w11).drew) ?_
            simp only [pickT, List.getElem?_cons_succ, List.getElem?_cons_zero, Option.getD_some]
            refine tree_do (fun K hK => ?_)
            go_wp2_with fail
            refine (frmKnown_calls w11.drew).mono ?_
            rintro en w12 ⟨rfl, hu12⟩
            go_wp2_with fail
            refine ⟨hud.trans hu12, ?_⟩
            repeat (refine tree_step rfl (fun K hK => ?_); go_big_quiet_step ((intro _; rfl)); refine wpQuiet_nil (hK _ ?_); clear hK K)
            refine tree_loadrow w7.heap.size 67 #[.int .i64 a1, .int .i64 a2, .int .i64 a3, .slice B7 a4.length d7] _ (by kernel_rfl) rfl Try.underlying67 rfl (by kernel_rfl) (fun w' h => hbz10.up h) ?_
            dsimp only [Act.put]
            simp only [List.setIfInBounds_toArray, List.set_cons_zero, List.set_cons_succ]
            repeat (refine tree_step rfl (fun K hK => ?_); go_big_quiet_step ((intro _; rfl)); refine wpQuiet_nil (hK _ ?_); clear hK K)
            refine tree_loadrow w10.heap.size 66 #[.int .i64 a1, .int .i64 a2, .int .i64 a3, .slice B10 a4.length d10] _ (by kernel_rfl) rfl Try.underlying66 rfl (by kernel_rfl) (fun w' h => hbw.up h) ?_
            dsimp only [Act.put]
            simp only [List.setIfInBounds_toArray, List.set_cons_zero, List.set_cons_succ]
            repeat (refine tree_step rfl (fun K hK => ?_); go_big_quiet_step ((intro _; rfl)); refine wpQuiet_nil (hK _ ?_); clear hK K)
            refine tree_do (fun K hK => ?_)
            go_wp2_with fail
            refine (of4_calls a1 a2 a3 B7 d7 w6.heap.size a4 w12 (HV10.out.up (hud.trans hu12))).mono ?_
            rintro en w13 ⟨B13, d13, rfl, hr13, hu13⟩
            have HSM := Lib.hid (ref4Same_calls a1 a2 a3 B13 d13 a4 a1 a2 a3 B10 d10 a4 w13 hr13 ((HR10.out.up (hud.trans hu12)).up hu13) (by have := hr13.mx; have := hb4; omega))
            rw [decide_eq_true (⟨rfl, rfl, rfl, rfl⟩ : a1 = a1 ∧ a2 = a2 ∧ a3 = a3 ∧ a4 = a4)] at HSM
            have HU13 := Lib.hid ((HU10.out.trans (hud.trans hu12)).trans hu13)
            go_wp2_with fail
            refine ⟨(hud.trans hu12).trans hu13, ?_⟩
            clear hr13 hbz10 hbw HV10 HR10 HU10
            repeat (refine tree_step rfl (fun K hK => ?_); go_big_quiet_step ((intro _; rfl)); refine wpQuiet_nil (hK _ ?_); clear hK K)
            refine tree_do (fun K hK => ?_)
            go_wp2_with fail
            refine (HSM.out).mono ?_
            rintro en w14 ⟨rfl, hu14⟩
            go_wp2_with fail
            refine ⟨((hud.trans hu12).trans hu13).trans hu14, ?_⟩
            repeat (refine tree_step rfl (fun K hK => ?_); go_big_quiet_step ((intro _; rfl)); refine wpQuiet_nil (hK _ ?_); clear hK K)
            refine tree_nil ?_
            go_wp2_with fail
            go_ret
            exact ⟨rfl, HU13.out.trans hu14⟩
          · have hr : frmReadR s1 (z : Int) ks = (0, 0, 0, [], 5) := by
              unfold frmReadR
              rw [if_pos he0, Int.toNat_natCast, HS1.out.2.2.2.2 z hpq]
              have : (zeroPg P).getD z [] = List.replicate 256 0 := by
                unfold zeroPg
                rw [List.getD_eq_getElem?_getD, List.getElem?_eq_getElem (by simp; omega)]
                simp
              rw [this, frmDec_zero]
              rfl
            rw [hr] at hv7 ⊢
            obtain ⟨B7, d7, rfl, _⟩ := hv7.rd
            have hz := Blk.new w7 67 #[.int .i64 0, .int .i64 0, .int .i64 0, .slice none 0 0]
            have z0 := hz.cell 0
            have z1 := hz.cell 1
            have z2 := hz.cell 2
            have z3 := hz.cell 3
            simp only [List.getElem?_toArray, List.getElem?_cons_succ, List.getElem?_cons_zero] at z0 z1 z2 z3
            have y0 := hz.frozen 0
            have y1 := hz.frozen 1
            have y2 := hz.frozen 2
            have y3 := hz.frozen 3
            have hux7 : Up w7 (w7.alloc (.cells #[.int .i64 0, .int .i64 0, .int .i64 0, .slice B7 0 d7] 67)) := (Up.refl w7).alloc _
            have r0 := (HX7.out.up hux7).cell 0
            have r1 := (HX7.out.up hux7).cell 1
            have r2 := (HX7.out.up hux7).cell 2
            have r3 := (HX7.out.up hux7).cell 3
            simp only [List.getElem?_toArray, List.getElem?_cons_succ, List.getElem?_cons_zero] at r0 r1 r2 r3
            clear p0 p1 p2 p3
            have hn1 : decide ((z : Int) < 0) = false := decide_eq_false (by omega)
            have hn2 : decide ((P : Int) ≤ (z : Int)) = false := decide_eq_false (by omega)
            have hn3 : (z : Int) < (P : Int) := hin.2
            have hn4 : ((z : Int) != (q : Int)) = true := by simp; omega
            clear hin hr hv7 hd7 hx7 hf HR HX7 HU6 HX6 HD6 HV6 HKS6 hdec hok hc hel he0
            dsimp only [List.length_nil]
            go_wp2_with fail
            refine (frmKnown_calls _).mono ?_
            rintro en w8 ⟨rfl, hu8⟩
            go_wp2_with fail
            go_ret
            exact ⟨rfl, (HU7.out.trans hux7).trans hu8⟩
        · have hr := (frmReadR_out (s := s1) HS1.out.1 (by rw [HS1.out.2.1, hzl]; exact hin) ks).1
          rw [hr] at hv7 ⊢
          clear hdec hok hc hel
          obtain ⟨B7, d7, rfl, _⟩ := hv7.rd
          have hz := Blk.new w7 67 #[.int .i64 0, .int .i64 0, .int .i64 0, .slice none 0 0]
          have z0 := hz.cell 0
          have z1 := hz.cell 1
          have z2 := hz.cell 2
          have z3 := hz.cell 3
          simp only [List.getElem?_toArray, List.getElem?_cons_succ, List.getElem?_cons_zero] at z0 z1 z2 z3
          have y0 := hz.frozen 0
          have y1 := hz.frozen 1
          have y2 := hz.frozen 2
          have y3 := hz.frozen 3
          have hux7 : Up w7 (w7.alloc (.cells #[.int .i64 0, .int .i64 0, .int .i64 0, .slice B7 0 d7] 67)) := (Up.refl w7).alloc _
          clear hr hv7 hd7 hx7 hf HR HX7 HU6 HX6 HD6 HV6 HKS6
          dsimp only [List.length_nil]
          by_cases h0 : page < 0
          · skip
            go_wp2_with fail
            refine (frmKnown_calls _).mono ?_
            rintro en w8 ⟨rfl, hu8⟩
            go_wp2_with fail
            go_ret
            exact ⟨rfl, (HU7.out.trans hux7).trans hu8⟩
          · have hn1 : decide (page < 0) = false := decide_eq_false h0
            have hn2 : (P : Int) ≤ page := by omega
            go_wp2_with fail
            refine (frmKnown_calls _).mono ?_
            rintro en w8 ⟨rfl, hu8⟩
            go_wp2_with fail
            go_ret
            exact ⟨rfl, (HU7.out.trans hux7).trans hu8⟩
    · have hs1 : frmWriteS (newS (zeroPg P)) k e p b = newS (zeroPg P) := by unfold frmWriteS; rw [if_neg hc]
      have hwd : wantD P k e p b = frmCheck k e p b := by unfold wantD; rw [if_neg hc]
      have hcn : (frmCheck k e p b != 0) = true := by simp [hc]
      have hcn2 : (frmCheck k e p b == 0) = false := by simp [hc]
      rw [hs1] at HD6
      rw [hwd]
      clear hs1 hwd
      generalize frmCheck k e p b = fc at *
      have HR := Lib.hid (frmRead_calls g S' _ page A2 c2 ks w6 HD6.out HKS6.out (by rw [HKM.out]; omega) (by show (0 : Nat) < 1000000000000; decide) HAB.out)
      rw [HKM.out] at HR
      go_wp2_with fail
      refine (HR.out).mono ?_
      intro en w7 hf
      obtain ⟨v7, rfl, hv7, hd7, hx7⟩ := hf.out
      have HX7 := Lib.hid (HX6.out.upx hx7 hgg)
      have HU7 := Lib.hid (HU6.out.thenx hx7 fun j hj e9 => by subst e9; have := (HS4.out _ hSG).1; omega)
      have hsz7 := hx7.size
      by_cases hin : 0 ≤ page ∧ page < (P : Int)
      · skip
        have hr := frmReadR_zero hin ks
        rw [hr] at hv7 ⊢
        obtain ⟨B7, d7, rfl, _⟩ := hv7.rd
        have hz := Blk.new w7 67 #[.int .i64 0, .int .i64 0, .int .i64 0, .slice none 0 0]
        have z0 := hz.cell 0
        have z1 := hz.cell 1
        have z2 := hz.cell 2
        have z3 := hz.cell 3
        simp only [List.getElem?_toArray, List.getElem?_cons_succ, List.getElem?_cons_zero] at z0 z1 z2 z3
        have y0 := hz.frozen 0
        have y1 := hz.frozen 1
        have y2 := hz.frozen 2
        have y3 := hz.frozen 3
        have hux7 : Up w7 (w7.alloc (.cells #[.int .i64 0, .int .i64 0, .int .i64 0, .slice B7 0 d7] 67)) := (Up.refl w7).alloc _
        have r0 := (HX7.out.up hux7).cell 0
        have r1 := (HX7.out.up hux7).cell 1
        have r2 := (HX7.out.up hux7).cell 2
        have r3 := (HX7.out.up hux7).cell 3
        simp only [List.getElem?_toArray, List.getElem?_cons_succ, List.getElem?_cons_zero] at r0 r1 r2 r3
        clear p0 p1 p2 p3
        have hn1 : decide (page < 0) = false := decide_eq_false (by omega)
        have hn2 : decide ((P : Int) ≤ page) = false := decide_eq_false (by omega)
        have hn3 : page < (P : Int) := hin.2
        have hn4 : 0 ≤ page := hin.1
        clear hin hr hv7 hd7 hx7 hf HR HX7 HU6 HX6 HD6 HV6 HKS6
        dsimp only [List.length_nil]
        go_wp2_with fail
        refine (frmKnown_calls _).mono ?_
        rintro en w8 ⟨rfl, hu8⟩
        go_wp2_with fail
        go_ret
        exact ⟨rfl, (HU7.out.trans hux7).trans hu8⟩
      · skip
        have hr := (frmReadR_out (s := newS (zeroPg P)) rfl (by show ¬ (0 ≤ page ∧ page < ((zeroPg P).length : Int)); simpa [zeroPg] using hin) ks).1
        rw [hr] at hv7 ⊢
        obtain ⟨B7, d7, rfl, _⟩ := hv7.rd
        have hz := Blk.new w7 67 #[.int .i64 0, .int .i64 0, .int .i64 0, .slice none 0 0]
        have z0 := hz.cell 0
        have z1 := hz.cell 1
        have z2 := hz.cell 2
        have z3 := hz.cell 3
        simp only [List.getElem?_toArray, List.getElem?_cons_succ, List.getElem?_cons_zero] at z0 z1 z2 z3
        have y0 := hz.frozen 0
        have y1 := hz.frozen 1
        have y2 := hz.frozen 2
        have y3 := hz.frozen 3
        have hux7 : Up w7 (w7.alloc (.cells #[.int .i64 0, .int .i64 0, .int .i64 0, .slice B7 0 d7] 67)) := (Up.refl w7).alloc _
        clear hr hv7 hd7 hx7 hf HR HX7 HU6 HX6 HD6 HV6 HKS6
        dsimp only [List.length_nil]
        by_cases h0 : page < 0
        · skip
          go_wp2_with fail
          refine (frmKnown_calls _).mono ?_
          rintro en w8 ⟨rfl, hu8⟩
          go_wp2_with fail
          go_ret
          exact ⟨rfl, (HU7.out.trans hux7).trans hu8⟩
        · have hn1 : decide (page < 0) = false := decide_eq_false h0
          have hn2 : (P : Int) ≤ page := by omega
          go_wp2_with fail
          refine (frmKnown_calls _).mono ?_
          rintro en w8 ⟨rfl, hu8⟩
          go_wp2_with fail
          go_ret
          exact ⟨rfl, (HU7.out.trans hux7).trans hu8⟩
end Go.Proofs.Ytehdigkjbobndaa
