/- Layer 3: the law DeviceLoads. -/
import Derived.Test.YtehdigkjbobndaaDevQ
namespace Go.Proofs.Ytehdigkjbobndaa
open Go.RowKit
set_option maxRecDepth 100000

theorem DevO.pages {w0 w : World} {M g : Nat} {s : DSt} (h : DevO w0 M w g s) : Calls Try.prog 14 #[.pointer (some ⟨g, 0, none⟩)] w fun e w' => e = .returned (.int .i64 s.pg.length) ∧ w' = w := by
  obtain ⟨S, h1, h2, h3⟩ := h.out
  exact devPages_calls g S s w h1
theorem DevO.on {w0 w : World} {M g : Nat} {s : DSt} (h : DevO w0 M w g s) : Calls Try.prog 25 #[.pointer (some ⟨g, 0, none⟩)] w fun e w' => e = .returned (.bool (!s.off)) ∧ w' = w := by
  obtain ⟨S, h1, h2, h3⟩ := h.out
  exact devOn_calls g S s w h1
theorem DevO.image {w0 w : World} {M g : Nat} {s : DSt} (h : DevO w0 M w g s) : Calls Try.prog 16 #[.pointer (some ⟨g, 0, none⟩)] w (RetOwn w 5 .u8 s.pg.flatten) := by
  obtain ⟨S, h1, h2, h3⟩ := h.out
  exact devImage_calls g S s w h1
theorem DevO.counts {w0 w : World} {M g : Nat} {s : DSt} (h : DevO w0 M w g s) : Calls Try.prog 33 #[.pointer (some ⟨g, 0, none⟩)] w fun e w' => e = .returned (.tuple #[.int .i64 s.rd, .int .i64 s.wr, .int .i64 s.sy]) ∧ Qt w w' := by
  obtain ⟨S, h1, h2, h3⟩ := h.out
  exact devCounts_calls g S s w h1
theorem DevO.waiting {w0 w : World} {M g : Nat} {s : DSt} (h : DevO w0 M w g s) (hwr : s.wr < 1000000000000) : Calls Try.prog 34 #[.pointer (some ⟨g, 0, none⟩)] w fun e w' => e = .returned (.int .i64 (sumTo (fun i => (s.wt i).length) s.pg.length : Nat)) ∧ Up w w' := by
  obtain ⟨S, h1, h2, h3⟩ := h.out
  exact devWaiting_calls g S s w h1 hwr
theorem DevO.ok {w0 w : World} {M g : Nat} {s : DSt} (h : DevO w0 M w g s) : DOk s := by
  obtain ⟨S, h1, h2, h3⟩ := h.out
  exact h1.ok
def chunks : Nat → List Int → List (List Int)
  | 0, _ => []
  | n + 1, l => l.take 256 :: chunks n (l.drop 256)
theorem chunks_spec : ∀ (n : Nat) (l : List Int), l.length = 256 * n → (chunks n l).flatten = l ∧ (∀ p ∈ chunks n l, p.length = 256) ∧ (chunks n l).length = n
  | 0, l, h => by
    have : l = [] := List.eq_nil_of_length_eq_zero (by omega)
    subst this
    exact ⟨rfl, fun p hp => (by cases hp), rfl⟩
  | n + 1, l, h => by
    obtain ⟨h1, h2, h3⟩ := chunks_spec n (l.drop 256) (by rw [List.length_drop]; omega)
    refine ⟨?_, fun p hp => ?_, ?_⟩
    · show (l.take 256 ++ (chunks n (l.drop 256)).flatten) = l
      rw [h1, List.take_append_drop]
    · rcases List.mem_cons.1 hp with rfl | hp
      · rw [List.length_take]; omega
      · exact h2 p hp
    · show (chunks n (l.drop 256)).length + 1 = n + 1
      rw [h3]
set_option maxHeartbeats 1000000 in
theorem lawDeviceLoads_calls (A : Option Addr) (c : Nat) (l : List Int) (no : Int) (w : World) (h : Rd w .u8 A c l) (hno : InK .i64 no) :
    Calls Try.prog 3 #[.slice A l.length c, .int .i64 no] w fun e w' => e = .returned (.bool true) ∧ Up w w' := by
  have hnot : ∀ (x : Bool) (w : World), (Op.unary .not (.bool x)).run Try.prog w = .ok (.bool (!x)) w := fun _ _ => rfl
  have hx : Rd w .u8 A c (l.take 3000) := h.take 3000
  obtain ⟨n, hn⟩ : ∃ n, (l.take 3000).length = n := ⟨_, rfl⟩
  have hn0 : n = min l.length 3000 := by rw [← hn, List.length_take]; omega
  have hL := h.le
  have HX := Lib.hid hx
  have HN := Lib.hid hn
  generalize l.take 3000 = x at *
  clear h hx hn
  go_enter Try.func3, Try.ntmps3
  go_upto_region 1 with fail
  go_cut [0] (fun v wx => v = .slice A n c ∧ w = wx)
  case first =>
    by_cases h9 : (3000 : Int) < (l.length : Int)
    · have HE := Lib.hid (show 3000 = n by omega)
      clear hn0
      go_wp2_with fail
      go_meet
      exact ⟨by rw [HE.out], rfl⟩
    · have HE := Lib.hid (show l.length = n by omega)
      clear hn0
      go_wp2_with fail
      go_meet
      exact ⟨by rw [HE.out], rfl⟩
  case rest =>
    obtain ⟨rfl, rfl⟩ := hcut
    have h30 : n ≤ 3000 := by omega
    have hnc : n ≤ c := by omega
    clear hn0 hL
    by_cases hb : n = 0 ∨ n % 256 ≠ 0
    · have HB := Lib.hid (devLoad_bad A c n w (by omega) (by omega))
      go_wp2_with fail
      refine (HB.out).mono ?_
      rintro en w1 ⟨rfl, rfl⟩
      clear HB
      by_cases h0 : n = 0
      · subst h0
        clear hb
        go_wp2_with fail
        refine (known03_calls w1).mono ?_
        rintro en w2 ⟨rfl, hu⟩
        go_wp2_with fail
        go_ret
        exact ⟨rfl, hu⟩
      · have h1 : n % 256 ≠ 0 := by omega
        have h2 : ((n : Int) == 0) = false := by simp; omega
        have h3 : ((n : Int).tmod 256 != 0) = true := by
          rw [Int.tmod_eq_emod_of_nonneg (by omega)]
          simp
          omega
        clear hb
        go_wp2_with fail
        refine (known03_calls w1).mono ?_
        rintro en w2 ⟨rfl, hu⟩
        go_wp2_with fail
        go_ret
        exact ⟨rfl, hu⟩
    · obtain ⟨P, rfl⟩ : ∃ P, n = 256 * P := ⟨n / 256, by omega⟩
      have hP1 : 1 ≤ P := by omega
      have hP2 : P ≤ 11 := by omega
      obtain ⟨hf, hpl, hpn⟩ := chunks_spec P x HN.out
      have HLD := Lib.hid (devLoad_ok A c (chunks P x) w (by rw [hf]; exact HX.out) hpl (by rw [hpn]; exact hP1) (by rw [hpn]; omega))
      rw [hpn] at HLD
      generalize chunks P x = pg at *
      have HF := Lib.hid hf
      have HPL := Lib.hid hpl
      have HPN := Lib.hid hpn
      clear hb hf hpl hpn
      have h2 : (((256 * P : Nat) : Int) == 0) = false := by simp; omega
      have h3 : (((256 * P : Nat) : Int).tmod 256 != 0) = false := by
        rw [Int.tmod_eq_emod_of_nonneg (by omega)]
        simp
      have h4 : (((256 * P : Nat) : Int).tdiv 256) = (P : Int) := by
        rw [Int.tdiv_eq_ediv_of_nonneg (by omega)]; omega
      go_wp2_with fail
      refine (HLD.out).mono ?_
      intro en w1 hm
      obtain ⟨g, rfl, hd⟩ := hm.o (Up.refl w)
      have HD := Lib.hid hd
      clear hm hd HLD
      have HPG := Lib.hid HD.out.pages
      rw [show (newS pg).pg.length = P from HPN.out] at HPG
      go_wp2_with fail
      refine (HPG.out).mono ?_
      rintro en w2 ⟨rfl, rfl⟩
      have HIM := Lib.hid HD.out.image
      clear HPG
      go_wp2_with fail
      refine (HIM.out).mono ?_
      rintro en w3 ⟨v, rfl, hv, hu3⟩
      rw [show (newS pg).pg.flatten = x from HF.out] at hv
      obtain ⟨B, c3, rfl, hr3⟩ := hv.rd
      have HD3 := Lib.hid (HD.out.up hu3)
      have HX3 := Lib.hid (HX.out.up HD3.out.w)
      have HSM := Lib.hid (refSame_n hr3 HX3.out (show 256 * P = x.length from HN.out.symm) (show 256 * P = x.length from HN.out.symm))
      rw [decide_eq_true rfl] at HSM
      rw [HN.out]
      clear HIM HD hv hu3 hr3
      go_wp2_with fail
      refine (HSM.out).mono ?_
      rintro en w4 ⟨rfl, hq4⟩
      have HD4 := Lib.hid (HD3.out.up hq4.up)
      clear HD3 HSM hq4
      have HRD := Lib.hid (HD4.out.read no (show 0 < 1000000000000 by decide))
      go_wp2_with fail
      refine (HRD.out).mono ?_
      intro en w5 hs
      obtain ⟨v, rfl, hv, hd⟩ := hs.out
      have HD5 := Lib.hid hd
      clear hs hd HRD HX3
      by_cases hin : 0 ≤ no ∧ no < (P : Int)
      · obtain ⟨i, rfl⟩ := Int.eq_ofNat_of_zero_le hin.1
        have hiP : i < P := by omega
        have he : devErr (newS pg) (i : Int) = 0 := devErr_ok rfl (by omega) (by show (i : Int) < (pg.length : Int); rw [HPN.out]; omega)
        rw [he] at hv ⊢
        rw [if_pos rfl, show ((i : Int)).toNat = i from Int.toNat_natCast i, show devSees (newS pg) i = pg.getD i [] from by unfold devSees newS; simp] at hv
        have hfp := flat_page (m := 256) pg i HPL.out (by rw [HPN.out]; exact hiP)
        rw [HF.out] at hfp
        obtain ⟨B5, c5, rfl, hr5⟩ := hv.rd
        have hlp : (pg.getD i []).length = 256 := by
          rw [List.getD_eq_getElem?_getD, List.getElem?_eq_getElem (by rw [HPN.out]; exact hiP)]
          exact HPL.out _ (List.getElem_mem _)
        rw [hlp]
        have HU5 := Lib.hid HD5.out.w
        clear hin he hv HD5 HD4 HPL HPN
        have HFP := Lib.hid hfp
        have HLP := Lib.hid hlp
        have hnP : ¬ ((P : Int) ≤ (i : Int)) := by omega
        have hnP2 : decide ((P : Int) ≤ (i : Int)) = false := decide_eq_false hnP
        have hlt : 256 * i + 256 ≤ c := by omega
        have hlti : (i : Int) < (P : Int) := by omega
        clear hfp hlp hnP
        cases A with
        | none => have := HX.out.non rfl; have := HN.out; omega
        | some ad =>
          go_wp2_with fail
          refine (known03_calls w5).mono ?_
          rintro en w6 ⟨rfl, hu6⟩
          have HX6 := Lib.hid ((HX.out.up HU5.out).up hu6)
          have hr6 := hr5.up hu6
          have HU6 := Lib.hid (HU5.out.trans hu6)
          clear hu6 hr5
          have hr7 : Rd w6 .u8 (some (ad.add (256 * i))) (c - 256 * i) (pg.getD i []) := by
            have h8 := HX6.out.cut (256 * i) (256 * i + 256) c (by omega) (by have := HN.out; omega) (by omega) (Nat.le_refl _)
            rw [if_neg (by omega), HFP.out] at h8
            exact h8
          have HSM := Lib.hid (refSame_n hr6 hr7 HLP.out.symm HLP.out.symm)
          rw [decide_eq_true rfl] at HSM
          clear hr6 hr7
          go_wp2_with fail
          refine (HSM.out).mono ?_
          rintro en w7 ⟨rfl, hq⟩
          go_wp2_with fail
          go_ret
          exact ⟨rfl, HU6.out.trans hq.up⟩
      · have he : devErr (newS pg) no = 10 := by
          unfold devErr
          rw [if_neg (by simp [newS]), if_pos (by show no < 0 ∨ (pg.length : Int) ≤ no; rw [HPN.out]; omega)]
        rw [he] at hv ⊢
        rw [if_neg (by decide)] at hv
        have HU5 := Lib.hid HD5.out.w
        obtain ⟨B5, c5, rfl, hr5⟩ := hv.rd
        clear he hv HD5 HD4 hr5
        by_cases h0 : no < 0
        · clear hin
          go_wp2_with fail
          refine (known03_calls w5).mono ?_
          rintro en w6 ⟨rfl, hu6⟩
          go_wp2_with fail
          go_ret
          exact ⟨rfl, HU5.out.trans hu6⟩
        · have h1 : (P : Int) ≤ no := by omega
          have h00 : decide (no < 0) = false := decide_eq_false h0
          clear hin
          go_wp2_with fail
          refine (known03_calls w5).mono ?_
          rintro en w6 ⟨rfl, hu6⟩
          go_wp2_with fail
          go_ret
          exact ⟨rfl, HU5.out.trans hu6⟩
end Go.Proofs.Ytehdigkjbobndaa
