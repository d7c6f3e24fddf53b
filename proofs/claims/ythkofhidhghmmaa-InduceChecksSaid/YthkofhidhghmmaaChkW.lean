/- The walk of the law InduceChecks, over what the functions that it calls answer. -/
import Derived.Test.YthkofhidhghmmaaIndH
namespace Go.Proofs.Ythkofhidhghmmaa
open Go.RowKit
set_option maxRecDepth 100000

/-- Something and an errno. -/
structure RetE (w : World) (n : Int) (e : Ending) (w' : World) : Prop where mk :: (out : ∃ v, e = .returned (.tuple #[v, .int .i64 n]) ∧ Up w w')
structure RetE3 (w : World) (n : Int) (e : Ending) (w' : World) : Prop where mk :: (out : ∃ v m, e = .returned (.tuple #[v, .int .i64 m, .int .i64 n]) ∧ Up w w')
structure RetB (w : World) (b : Bool) (e : Ending) (w' : World) : Prop where mk :: (out : ∃ v, e = .returned (.tuple #[v, .bool b]) ∧ Up w w')
structure RetI (w : World) (n : Int) (e : Ending) (w' : World) : Prop where mk :: (out : e = .returned (.int .i64 n) ∧ Up w w')
structure RetT (w : World) (b : Bool) (e : Ending) (w' : World) : Prop where mk :: (out : e = .returned (.bool b) ∧ Up w w')
/-- How often. -/
def cntI (l : List Int) (z : Int) : Nat := (l.filter fun y => decide (y = z)).length
theorem cntI_take (l : List Int) (m : Nat) (z : Int) (h : m < l.length) : cntI (l.take (m + 1)) z = cntI (l.take m) z + if l.getD m 0 = z then 1 else 0 := by
  unfold cntI
  rw [take_succ_getD l m 0 h, List.filter_append, List.length_append]
  congr 1
  generalize l.getD m 0 = y
  by_cases e : y = z
  · simp [e]
  · simp [e]
theorem cntI_le (l : List Int) (z : Int) : cntI l z ≤ l.length := List.length_filter_le _ _
/-- Each of a list's once, the first k of them; of as many. -/
def allOnce (y F : List Int) (k : Nat) : Bool := decide (y.length = F.length) && (F.take k).all fun z => decide (cntI y z = 1)
theorem allOnce_zero (y F : List Int) : allOnce y F 0 = decide (y.length = F.length) := by simp [allOnce]
theorem allOnce_succ (y F : List Int) (k : Nat) (h : k < F.length) : allOnce y F (k + 1) = (allOnce y F k && decide (cntI y (F.getD k 0) = 1)) := by
  unfold allOnce
  rw [take_succ_getD F k 0 h, List.all_append, Bool.and_assoc]
  simp
def errN (b : Bool) : Int := if b then 0 else 3

set_option maxHeartbeats 2000000 in
theorem errno16_calls (b : Bool) (w : World) : Calls Try.prog 48 #[.bool b] w fun e w' => e = .returned (.int .i64 (errN b)) ∧ w' = w := by
  cases b
  · go_enter Try.func48, Try.ntmps48
    go_wp2_with fail
    go_ret
    exact ⟨rfl, rfl⟩
  · go_enter Try.func48, Try.ntmps48
    go_wp2_with fail
    go_ret
    exact ⟨rfl, rfl⟩

set_option maxHeartbeats 8000000 in
theorem chk_bad (A0 A1 : Option Addr) (c0 c1 : Nat) (l0 l1 : List Int) (w : World) (hL0 : l0.length ≤ c0) (hL1 : l1.length ≤ c1) (n0 n1 : Nat) (hn0 : (min (l0.length : Int) 60).toNat = n0) (hn1 : (min (l1.length : Int) 60).toNat = n1) (e : Int) (he : e ≠ 0)
    (H1 : ∀ w', Up w w' → Hid (Calls Try.prog 32 #[.slice A0 n0 c0] w' (RetI w' e)))
    (H2 : ∀ w', Up w w' → Hid (Calls Try.prog 34 #[.slice A0 n0 c0] w' (RetE w' e)))
    (H3 : ∀ w', Up w w' → Hid (Calls Try.prog 35 #[.slice A0 n0 c0] w' (RetE w' e)))
    (H4 : ∀ w', Up w w' → Hid (Calls Try.prog 39 #[.slice A0 n0 c0, .slice A1 n1 c1] w' (RetE w' e)))
    (H5 : ∀ w', Up w w' → Hid (Calls Try.prog 42 #[.slice A0 n0 c0, .slice A1 n1 c1] w' (RetE3 w' e)))
    (H6 : ∀ w', Up w w' → Hid (Calls Try.prog 46 #[.slice A0 n0 c0] w' (RetE w' e)))
    (H7 : ∀ w', Up w w' → Hid (Calls Try.prog 47 #[.slice A0 n0 c0, .slice A1 n1 c1] w' (RetE w' e)))
    (H8 : ∀ w', Up w w' → Hid (Calls Try.prog 38 #[] w' (RetT w' true))) :
    Calls Try.prog 12 #[.slice A0 l0.length c0, .slice A1 l1.length c1] w fun en w' => en = .returned (.bool true) ∧ Up w w' := by
  have hb1 : (e != e) = false := by simp
  have hb2 : (e == e) = true := by simp
  have hb3 : (e != 0) = true := by simpa using he
  go_enter Try.func12, Try.ntmps12
  go_wp2_with fail
  go_quiet (fail)
  have hu := (Up.refl w).drewN nq
  generalize w.drewN nq = wq at *
  go_wp2_with fail
  refine (H1 _ hu).out.mono ?_
  rintro en w1 ⟨⟨rfl, hq⟩⟩
  replace hu := hu.trans hq
  clear hq wq
  rename World => wq
  go_wp2_with fail
  refine (H2 _ hu).out.mono ?_
  rintro en w1 ⟨⟨v2, rfl, hq⟩⟩
  replace hu := hu.trans hq
  clear hq wq
  rename World => wq
  go_wp2_with fail
  refine (H3 _ hu).out.mono ?_
  rintro en w1 ⟨⟨v3, rfl, hq⟩⟩
  replace hu := hu.trans hq
  clear hq wq
  rename World => wq
  go_wp2_with fail
  refine (H4 _ hu).out.mono ?_
  rintro en w1 ⟨⟨v4, rfl, hq⟩⟩
  replace hu := hu.trans hq
  clear hq wq
  rename World => wq
  go_wp2_with fail
  refine (H5 _ hu).out.mono ?_
  rintro en w1 ⟨⟨v5, m5, rfl, hq⟩⟩
  replace hu := hu.trans hq
  clear hq wq
  rename World => wq
  go_wp2_with fail
  refine (H6 _ hu).out.mono ?_
  rintro en w1 ⟨⟨v6, rfl, hq⟩⟩
  replace hu := hu.trans hq
  clear hq wq
  rename World => wq
  go_wp2_with fail
  refine (H7 _ hu).out.mono ?_
  rintro en w1 ⟨⟨v7, rfl, hq⟩⟩
  replace hu := hu.trans hq
  clear hq wq
  rename World => wq
  go_wp2_with fail
  refine (H8 _ hu).out.mono ?_
  rintro en w1 ⟨⟨rfl, hq⟩⟩
  replace hu := hu.trans hq
  go_wp2_with fail
  go_ret
  exact ⟨rfl, hu⟩
set_option maxHeartbeats 8000000 in
theorem chk_ok (A0 A1 : Option Addr) (c0 c1 : Nat) (l0 l1 : List Int) (w : World) (hL0 : l0.length ≤ c0) (hL1 : l1.length ≤ c1) (n0 n1 : Nat) (hn0 : (min (l0.length : Int) 60).toNat = n0) (hn1 : (min (l1.length : Int) 60).toNat = n1)
    (y F : List Int) (hy : Rd w .i64 A1 c1 y) (hyl : y.length = n1) (hn1b : n1 ≤ 60) (hF : F.length ≤ 60) (o : Bool)
    (H1 : ∀ w', Up w w' → Hid (Calls Try.prog 32 #[.slice A0 n0 c0] w' (RetI w' 0)))
    (H2 : ∀ w', Up w w' → Hid (Calls Try.prog 34 #[.slice A0 n0 c0] w' (RetE w' 0)))
    (H3 : ∀ w', Up w w' → Hid (Calls Try.prog 35 #[.slice A0 n0 c0] w' (RetE w' 0)))
    (H4 : ∀ w', Up w w' → Hid (Calls Try.prog 39 #[.slice A0 n0 c0, .slice A1 n1 c1] w' (RetE w' (errN (allOnce y F F.length)))))
    (H5 : ∀ w', Up w w' → Hid (Calls Try.prog 42 #[.slice A0 n0 c0, .slice A1 n1 c1] w' (RetE3 w' (errN (o && decide (n1 = n0))))))
    (H6 : ∀ w', Up w w' → Hid (Calls Try.prog 46 #[.slice A0 n0 c0] w' (RetE w' 0)))
    (H7 : ∀ w', Up w w' → Hid (Calls Try.prog 47 #[.slice A0 n0 c0, .slice A1 n1 c1] w' (RetE w' (errN (o && decide (n1 = F.length))))))
    (H8 : ∀ w', Up w w' → Hid (Calls Try.prog 38 #[] w' (RetT w' true)))
    (H9 : ∀ w', Up w w' → Hid (Calls Try.prog 24 #[.slice A0 n0 c0] w' (Ret1 w' F)))
    (H10 : ∀ w', Up w w' → Hid (Calls Try.prog 15 #[.slice A1 n1 c1] w' (RetB w' o))) :
    Calls Try.prog 12 #[.slice A0 l0.length c0, .slice A1 l1.length c1] w fun en w' => en = .returned (.bool true) ∧ Up w w' := by
  generalize hg : errN (allOnce y F F.length) = g at *
  generalize hh : errN (o && decide (n1 = n0)) = h at *
  generalize hj : errN (o && decide (n1 = F.length)) = j at *
  have HG := Lib.hid hg
  have HH := Lib.hid hh
  have HJ := Lib.hid hj
  clear hg hh hj
  go_enter Try.func12, Try.ntmps12
  go_wp2_with fail
  go_quiet (fail)
  have hu := (Up.refl w).drewN nq
  generalize w.drewN nq = wq at *
  go_wp2_with fail
  refine (H1 _ hu).out.mono ?_
  rintro en w1 ⟨⟨rfl, hq⟩⟩
  replace hu := hu.trans hq
  clear hq wq
  rename World => wq
  go_wp2_with fail
  refine (H2 _ hu).out.mono ?_
  rintro en w1 ⟨⟨v2, rfl, hq⟩⟩
  replace hu := hu.trans hq
  clear hq wq
  rename World => wq
  go_wp2_with fail
  refine (H3 _ hu).out.mono ?_
  rintro en w1 ⟨⟨v3, rfl, hq⟩⟩
  replace hu := hu.trans hq
  clear hq wq
  rename World => wq
  go_wp2_with fail
  refine (H4 _ hu).out.mono ?_
  rintro en w1 ⟨⟨v4, rfl, hq⟩⟩
  replace hu := hu.trans hq
  clear hq wq
  rename World => wq
  go_wp2_with fail
  refine (H5 _ hu).out.mono ?_
  rintro en w1 ⟨⟨v5, m5, rfl, hq⟩⟩
  replace hu := hu.trans hq
  clear hq wq
  rename World => wq
  go_wp2_with fail
  refine (H6 _ hu).out.mono ?_
  rintro en w1 ⟨⟨v6, rfl, hq⟩⟩
  replace hu := hu.trans hq
  clear hq wq
  rename World => wq
  go_wp2_with fail
  refine (H7 _ hu).out.mono ?_
  rintro en w1 ⟨⟨v7, rfl, hq⟩⟩
  replace hu := hu.trans hq
  clear hq wq
  rename World => wq
  go_wp2_with fail
  refine (H9 _ hu).out.mono ?_
  rintro en w1 ⟨⟨v9, rfl, hv9, hq⟩⟩
  obtain ⟨A9, c9, rfl, hr9⟩ := hv9.rd
  replace hu := hu.trans hq
  clear hv9 hq wq H1 H2 H3 H4 H5 H6 H7 H9
  rename World => wq
  have hyq := hy.up hu
  have HH8 : ∀ w', Up wq w' → Hid (Calls Try.prog 38 #[] w' (RetT w' true)) := fun w' h => H8 w' (hu.trans h)
  have HH10 : ∀ w', Up wq w' → Hid (Calls Try.prog 15 #[.slice A1 n1 c1] w' (RetB w' o)) := fun w' h => H10 w' (hu.trans h)
  have HU := Lib.hid hu
  clear H8 H10 hy hu
  have hb0 : ((n1 : Int) == (F.length : Int)) = allOnce y F 0 := by
    rw [allOnce_zero, hyl]
    by_cases e : n1 = F.length
    · rw [decide_eq_true e]; simp [e]
    · rw [decide_eq_false e]; simpa using (show (n1 : Int) ≠ (F.length : Int) by omega)
  go_wp2_with fail
  go_loopw [20, 21, 22, 23] (fun a k _ _ wr => ∃ kk : Nat, kk ≤ F.length ∧ k = .int .i64 kk ∧ a = .bool (allOnce y F kk) ∧ Up wq wr) (fun _ k _ _ _ => F.length - (intOf k).toNat)
  case atStart => exact ⟨0, Nat.zero_le _, rfl, by first | rfl | (rw [hb0]), Up.refl _⟩
  case round =>
    obtain ⟨kk, hk, rfl, rfl, hq⟩ := hrel
    by_cases hlt : kk < F.length
    · obtain ⟨a9, z, rfl, hcz, HZ, _⟩ := hr9.get kk hlt
      have HST := Lib.hid (allOnce_succ y F kk hlt)
      rw [HZ.out] at HST
      generalize allOnce y F kk = al at *
      go_wp2_with fail
      go_loopw [22, 23] (fun n m wr => ∃ mm : Nat, mm ≤ n1 ∧ m = .int .i64 mm ∧ n = .int .i64 (cntI (y.take mm) z : Nat) ∧ Up wq wr) (fun _ m _ => n1 - (intOf m).toNat)
      case atStart => exact ⟨0, Nat.zero_le _, rfl, by rw [List.take_zero]; rfl, hq⟩
      case round =>
        clear hq
        obtain ⟨mm, hm, rfl, rfl, hq⟩ := hrel
        have hcn : cntI (y.take mm) z ≤ 60 := by
          have := cntI_le (y.take mm) z
          rw [List.length_take] at this
          omega
        by_cases hlm : mm < n1
        · obtain ⟨a1, v, rfl, hcv, HV, _⟩ := hyq.get mm (by omega)
          have HC := Lib.hid (cntI_take y mm z (by omega))
          rw [HV.out] at HC
          have hcv' := hq.cell hcv
          have hcz' := hq.cell hcz
          generalize cntI (y.take mm) z = n at *
          clear hcv
          have HU3 := Lib.hid hq
          by_cases e : v = z
          · have HC := Lib.hid (HC.out.trans (by rw [if_pos e]))
            subst e
            go_wp2_with fail
            go_quiet (fail)
            go_wp2_with fail
            refine ⟨⟨mm + 1, by omega, by simp, by rw [HC.out]; simp, HU3.out.drewN nq⟩, ?_⟩
            simp [intOf]; omega
          · have HC := Lib.hid (HC.out.trans (by rw [if_neg e]))
            have eb : (v == z) = false := by simpa using e
            go_wp2_with fail
            go_quiet (fail)
            go_wp2_with fail
            refine ⟨⟨mm + 1, by omega, by simp, by rw [HC.out]; simp, HU3.out.drewN nq⟩, ?_⟩
            simp [intOf]; omega
        · have hme : mm = n1 := by omega
          subst hme
          rw [← hyl, List.take_length] at hcn ⊢
          rw [hyl] at *
          have hq' := Lib.hid hq
          cases al with
          | false =>
            have HST := Lib.hid (HST.out.trans (Bool.false_and _))
            generalize cntI y z = n at *
            go_wp2_with fail
            refine ⟨⟨kk + 1, by omega, by simp, by rw [HST.out]; simp, hq'.out⟩, ?_⟩
            simp [intOf]; omega
          | true =>
            have HST := Lib.hid (HST.out.trans (Bool.true_and _))
            generalize cntI y z = n at *
            by_cases hn : n = 1
            · have HST := Lib.hid (HST.out.trans (decide_eq_true hn))
              subst hn
              go_wp2_with fail
              refine ⟨⟨kk + 1, by omega, by simp, by rw [HST.out]; simp, hq'.out⟩, ?_⟩
              simp [intOf]; omega
            · have HST := Lib.hid (HST.out.trans (decide_eq_false hn))
              have hnb : ((n : Int) == 1) = false := by simpa using (show (n : Int) ≠ 1 by omega)
              go_wp2_with fail
              refine ⟨⟨kk + 1, by omega, by simp, by rw [HST.out], hq'.out⟩, ?_⟩
              simp [intOf]; omega
    · have hke : kk = F.length := by omega
      subst hke
      have HQ := Lib.hid hq
      have HH8' : Hid (∀ w', Up wr w' → Calls Try.prog 38 #[] w' (RetT w' true)) := Lib.hid fun w' h => (HH8 w' (HQ.out.trans h)).out
      have HH10' := HH10 wr hq
      clear HH8 HH10 hq hb0
      go_wp2_with fail
      refine (HH10'.out).mono ?_
      rintro en w5 ⟨⟨v5, rfl, hq5⟩⟩
      go_wp2_with fail
      refine (HH8'.out _ hq5).mono ?_
      rintro en w6 ⟨⟨rfl, hq6⟩⟩
      have HUU := Lib.hid (((HU.out.trans HQ.out).trans hq5).trans hq6)
      clear HH8' HH10' hq5 hq6
      generalize allOnce y F F.length = b1 at *
      clear hr9 hyq hlt hk
      have fin : ∀ (b1 b2 b3 : Bool) (o2 : Bool), b2 = (o && decide (n1 = n0)) → True := fun _ _ _ _ _ => trivial
      clear fin
      have hs0 : ((n1 : Int) == (n0 : Int)) = decide (n1 = n0) := by
        by_cases e : n1 = n0
        · rw [decide_eq_true e]; simp [e]
        · rw [decide_eq_false e]; simpa using (show (n1 : Int) ≠ (n0 : Int) by omega)
      have hs1 : ((n1 : Int) == (F.length : Int)) = decide (n1 = F.length) := by
        by_cases e : n1 = F.length
        · rw [decide_eq_true e]; simp [e]
        · rw [decide_eq_false e]; simpa using (show (n1 : Int) ≠ (F.length : Int) by omega)
      generalize decide (n1 = n0) = d0 at *
      generalize decide (n1 = F.length) = d1 at *
      have HG := HG.out
      have HH := HH.out
      have HJ := HJ.out
      subst HG HH HJ
      cases o
      · go_wp2_with fail
        refine (errno16_calls _ _).mono ?_
        rintro en w7 ⟨rfl, rfl⟩
        generalize errN b1 = g1 at *
        go_wp2_with fail
        refine (errno16_calls false _).mono ?_
        rintro en w8 ⟨rfl, rfl⟩
        go_wp2_with fail
        refine (errno16_calls false _).mono ?_
        rintro en w9 ⟨rfl, rfl⟩
        go_wp2_with fail
        go_ret
        exact ⟨rfl, HUU.out⟩
      · go_wp2_with fail
        refine (errno16_calls _ _).mono ?_
        rintro en w7 ⟨rfl, rfl⟩
        generalize errN b1 = g1 at *
        go_wp2_with fail
        refine (errno16_calls d0 _).mono ?_
        rintro en w8 ⟨rfl, rfl⟩
        go_wp2_with fail
        refine (errno16_calls d1 _).mono ?_
        rintro en w9 ⟨rfl, rfl⟩
        go_wp2_with fail
        go_ret
        exact ⟨rfl, HUU.out⟩
end Go.Proofs.Ythkofhidhghmmaa
