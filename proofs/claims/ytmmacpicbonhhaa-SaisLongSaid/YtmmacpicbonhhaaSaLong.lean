/- The law SaisLong returns true of any numbers. -/
import Derived.Test.YtmmacpicbonhhaaSaL
namespace Go.Proofs.Ytmmacpicbonhhaa.SaiPure
open Go.RowKit Go.Proofs.Ytmmacpicbonhhaa Go.Proofs.Ytmmacpicbonhhaa.PSai Go.Proofs.YtmmacpicbonhhaaW.PrintWords Go.Proofs.YtmmacpicbonhhaaW.PrintMore
set_option maxRecDepth 100000
set_option linter.unusedVariables false

theorem text_l9 (l : List Int) (s : Nat) (h0 : 0 < s) (h1 : s < 10) : ∀ d i : Nat, i + d = min l.length 120 → ∀ o : List Int, o.length = i → (∀ z ∈ o, 1 ≤ z ∧ z ≤ 9) → ∃ x, Ev (fun k => incipitlaw15_Text.l0 k l (s : Int) o (i : Int)) (x ++ [0]) ∧ (∀ z ∈ x, 1 ≤ z ∧ z ≤ 9) ∧ x.length ≤ 120 := by
  intro d
  induction d with
  | zero =>
    intro i hi o ho hz
    refine ⟨o, Ev_now fun k => ?_, hz, by omega⟩
    simp only [incipitlaw15_Text.l0]
    by_cases h : i < l.length
    · rw [if_pos (by omega), if_neg (by omega), if_pos (by omega)]
    · rw [if_neg (by omega), if_pos (by omega)]
  | succ d ih =>
    intro i hi o ho hz
    have hr := tm_range (l.getD i 0) s h0 (by omega)
    generalize hv : wrap64 (Int.tmod (IntKind.u64.wrap (l.getD i 0)) (IntKind.u64.wrap (s : Int))) = v at hr
    obtain ⟨x, hx, hT, hL⟩ := ih (i + 1) (by omega) (o ++ [1 + v]) (by simp; omega) (fun z hz2 => by
      rcases List.mem_append.1 hz2 with h | h
      · exact hz z h
      · rw [List.mem_singleton] at h; omega)
    refine ⟨x, Ev_to hx fun k => ?_, hT, hL⟩
    simp only [incipitlaw15_Text.l0]
    rw [if_pos (by omega), if_pos (by omega), if_pos (by omega), if_neg (by rw [IntKind.wrap_u64]; omega), if_pos (by omega), rd_nat, hv, w_id (x := 1 + v) (by omega) (by omega), w_succ i (by omega)]
theorem text9 (l : List Int) (a : Int) : ∃ x, Ev (fun k => incipitlaw15_Text.f k l a) (x ++ [0]) ∧ (∀ z ∈ x, 1 ≤ z ∧ z ≤ 9) ∧ x.length ≤ 120 := by
  have hr := tm_range a 9 (by decide) (by decide)
  have e9 : IntKind.u64.wrap ((9 : Nat) : Int) = 9 := by rw [IntKind.wrap_u64]; rfl
  rw [e9] at hr
  unfold incipitlaw15_Text.f
  generalize wrap64 (Int.tmod (IntKind.u64.wrap a) 9) = v at hr
  rw [w_id (x := 1 + v) (by omega) (by omega)]
  obtain ⟨s, hs⟩ := Int.eq_ofNat_of_zero_le (show 0 ≤ 1 + v by omega)
  rw [hs]
  exact text_l9 l s (by omega) (by omega) _ 0 (Nat.zero_add _) [] rfl (by simp)
theorem c_text9 (l : List Int) (a : Int) : ∃ x, (∀ z ∈ x, 1 ≤ z ∧ z ≤ 9) ∧ x.length ≤ 120 ∧ ∀ A c w, Rd w .i64 A c l → InK .i64 a →
    Calls Try.prog 9 #[.slice A l.length c, .int .i64 a] w (Ret1 w (x ++ [0])) := by
  obtain ⟨x, ev, hx, hl⟩ := text9 l a
  have hT := txt_of x fun z hz => by have := hx z hz; omega
  obtain ⟨k, e⟩ := Ev.rounds ev
  exact ⟨x, hx, hl, fun A c w h ha => (incipitlaw15_Text.calls k A c l a _ w (kd_of_rd h) h.le e).mono fun _ _ ⟨v, he, hv, hu⟩ => ⟨v, he, own_of_kd hv (fun z hz => ⟨txt_wf hT z hz⟩), ⟨hu⟩⟩⟩

set_option maxHeartbeats 4000000 in
theorem lawSaisLong_calls (A : Option Addr) (c : Nat) (l : List Int) (a0 a1 a2 : Int) (w : World) (h : Rd w .i64 A c l) (ha0 : InK .i64 a0) (ha1 : InK .i64 a1) (ha2 : InK .i64 a2) :
    Calls Try.prog 7 #[.slice A l.length c, .int .i64 a0, .int .i64 a1, .int .i64 a2] w fun e w' => e = .returned (.bool true) ∧ Up w w' := by
  obtain ⟨x, hx, hxl, HT⟩ := c_text9 l a0
  go_enter Try.func7, Try.ntmps7
  go_wp2_with fail
  refine (HT A c w h ha0).mono ?_
  rintro en w1 ⟨v1, rfl, hv1, hu1⟩
  obtain ⟨A1, c1, rfl, hr1⟩ := hv1.rd
  have hc1 := hr1.le
  rw [List.length_append, List.length_singleton] at hc1 ⊢
  have hrx : Rd w1 .i64 A1 c1 x := by
    have := hr1.take x.length
    rwa [List.take_append_of_le_length (Nat.le_refl _), List.take_length] at this
  clear hv1 HT h hr1
  go_wp2_with fail
  have hn := tm_range a1 3000 (by decide) (by decide)
  have hs := tm_range a2 7 (by decide) (by decide)
  rw [show IntKind.u64.wrap ((3000 : Nat) : Int) = 3000 by rw [IntKind.wrap_u64]; rfl] at hn
  rw [show IntKind.u64.wrap ((7 : Nat) : Int) = 7 by rw [IntKind.wrap_u64]; rfl] at hs
  generalize wrap64 (Int.tmod (IntKind.u64.wrap a1) 3000) = n' at *
  generalize wrap64 (Int.tmod (IntKind.u64.wrap a2) 7) = s' at *
  obtain ⟨n, rfl⟩ := Int.eq_ofNat_of_zero_le hn.1
  obtain ⟨s, rfl⟩ := Int.eq_ofNat_of_zero_le hs.1
  have hnb : n < 3000 := by omega
  have hsb : s < 7 := by omega
  have HX := Lib.hid hx
  clear hn hs hx ha0 ha1 ha2
  go_loopw [10, 11] (fun xv i wr => ∃ (k : Nat) (o : List Int), k ≤ n ∧ i = .int .i64 k ∧ Hid (o.length = k) ∧ Hid (∀ z ∈ o, 1 ≤ z ∧ z ≤ 65535) ∧ Own wr w1.heap.size 3 .i64 xv o ∧ Up w1 wr) (fun _ i _ => n - (intOf i).toNat)
  case atStart => exact ⟨0, [], Nat.zero_le _, rfl, Lib.hid rfl, Lib.hid (fun z hz => absurd hz (by simp)), Own.nil _ _ _ _, Up.refl _⟩
  case round =>
    obtain ⟨k, o, hk, rfl, HL, HO, ho, hU⟩ := hrel
    by_cases hlt : k < n
    · by_cases hp : 0 < x.length
      · obtain ⟨ad, v, rfl, hc, HV, _⟩ := (hrx.up hU).get (k % x.length) (Nat.mod_lt _ hp)
        have hml := Nat.mod_lt k hp
        have hv := HX.out v (by rw [← HV.out]; exact getD_mem _ _ _ hml)
        have hol := HL.out
        have hzr : 1 ≤ wrap64 (v + (wrap64 ((k : Int) / 97 * (s : Int))).tmod 5) ∧ wrap64 (v + (wrap64 ((k : Int) / 97 * (s : Int))).tmod 5) ≤ 13 := by
          have hm : k / 97 * s ≤ 30 * 6 := Nat.mul_le_mul (by omega) (by omega)
          have he : (k : Int) / 97 * (s : Int) = ((k / 97 * s : Nat) : Int) := by simp
          rw [he, w_id (x := ((k / 97 * s : Nat) : Int)) (by omega) (by omega), Int.tmod_eq_emod_of_nonneg (by omega), w_id (by omega) (by omega)]
          omega
        generalize hzz : wrap64 (v + (wrap64 ((k : Int) / 97 * (s : Int))).tmod 5) = z at hzr
        have hfin : ∀ v1 w2, Own w2 w1.heap.size 3 .i64 v1 (o ++ [z]) → UpX (fun b => u10.ownBlock = some b) wr w2 → ∃ (k' : Nat) (o' : List Int), k' ≤ n ∧ Value.int .i64 ((k : Int) + 1) = .int .i64 k' ∧ Hid (o'.length = k') ∧ Hid (∀ z ∈ o', 1 ≤ z ∧ z ≤ 65535) ∧ Own w2 w1.heap.size 3 .i64 v1 o' ∧ Up w1 w2 := fun v1 w2 hv1 hu2 =>
          ⟨k + 1, o ++ [z], by omega, by simp, Lib.hid (by simp [hol]), Lib.hid (fun y hy => by
            rcases List.mem_append.1 hy with hy | hy
            · exact HO.out y hy
            · rw [List.mem_singleton] at hy; omega), hv1, hU.thenx hu2 fun i hi e => by have := (ho.lt i e).1; omega⟩
        have HF := Lib.hid hfin
        clear hfin
        go_wp2_with (refine wpl_push_int (t := 22) w1.heap.size 3 .i64 8 Try.underlying22 infoInt' u10 o z (congrArg (Value.int .i64) hzz) (InK.of_i64 (by omega) (by omega)) (fun _ => rfl) (fun _ => rfl) ho (by omega) (by decide) hU.size ?_; intro v1 w2 hv1 hu2)
        refine ⟨HF.out _ _ hv1 hu2, ?_⟩
        simp [intOf]; omega
      · skip
        have HTX := Lib.hid (txt_of o HO.out)
        have hol : o.length ≤ 3000 := by have := HL.out; omega
        have HU0 := Lib.hid (hu1.trans hU)
        have HTH : Hid (∀ w2, UpX (fun b => u10.ownBlock = some b) wr w2 → Up w1 w2) := Lib.hid fun w2 hu2 => hU.thenx hu2 fun i hi e => by have := (ho.lt i e).1; omega
        clear HL HO
        go_wp2_with (refine wpl_push_int (t := 22) w1.heap.size 3 .i64 8 Try.underlying22 infoInt' u10 o 0 rfl (InK.of_i64 (by omega) (by omega)) (fun _ => rfl) (fun _ => rfl) ho (by omega) (by decide) hU.size ?_; intro v1 w2 hv1 hu2)
        have hV := HTH.out w2 hu2
        clear hu2 HTH ho
        have hT := HTX.out
        have hyl : (o ++ [0]).length ≤ 3001 := by simp; omega
        clear HTX
        generalize o ++ [0] = y at *
        have HSL := Lib.hid (sortS_len y)
        obtain ⟨A2, c2, rfl, hr2⟩ := hv1.rd
        clear hv1
        refine (order_calls hT (by omega) A2 c2 w2 hr2).mono ?_
        rintro en w3 ⟨v3, rfl, hv3, hu3⟩
        obtain ⟨A3, c3, rfl, hr3⟩ := hv3.rd
        have hr23 := hr2.up hu3
        have hU3 := hV.trans hu3
        clear hv3 hr2
        go_wp2_with fail
        refine (known17_calls w3).mono ?_
        rintro en w4 ⟨rfl, hu4⟩
        have hr24 := hr23.up hu4
        have hr34 := hr3.up hu4
        have hU4 := hU3.trans hu4
        clear hr23 hr3
        go_wp2_with fail
        refine (c_right (x := y) (l := sortS y) (by omega) (by rw [HSL.out]; omega) A2 c2 A3 c3 w4 hr24 hr34).mono ?_
        rintro en w5 ⟨rfl, hu5⟩
        rw [decide_eq_true (right_iff.2 ⟨hT, rfl⟩)]
        have hU5 := (hu1.trans hU4).trans hu5
        rw [HSL.out]
        go_wp2_with fail
        go_ret
        exact ⟨rfl, hU5⟩
    · skip
      have HTX := Lib.hid (txt_of o HO.out)
      have hol : o.length ≤ 3000 := by have := HL.out; omega
      have HU0 := Lib.hid (hu1.trans hU)
      have HTH : Hid (∀ w2, UpX (fun b => u10.ownBlock = some b) wr w2 → Up w1 w2) := Lib.hid fun w2 hu2 => hU.thenx hu2 fun i hi e => by have := (ho.lt i e).1; omega
      clear HL HO
      go_wp2_with (refine wpl_push_int (t := 22) w1.heap.size 3 .i64 8 Try.underlying22 infoInt' u10 o 0 rfl (InK.of_i64 (by omega) (by omega)) (fun _ => rfl) (fun _ => rfl) ho (by omega) (by decide) hU.size ?_; intro v1 w2 hv1 hu2)
      have hV := HTH.out w2 hu2
      clear hu2 HTH ho
      have hT := HTX.out
      have hyl : (o ++ [0]).length ≤ 3001 := by simp; omega
      clear HTX
      generalize o ++ [0] = y at *
      have HSL := Lib.hid (sortS_len y)
      obtain ⟨A2, c2, rfl, hr2⟩ := hv1.rd
      clear hv1
      refine (order_calls hT (by omega) A2 c2 w2 hr2).mono ?_
      rintro en w3 ⟨v3, rfl, hv3, hu3⟩
      obtain ⟨A3, c3, rfl, hr3⟩ := hv3.rd
      have hr23 := hr2.up hu3
      have hU3 := hV.trans hu3
      clear hv3 hr2
      go_wp2_with fail
      refine (known17_calls w3).mono ?_
      rintro en w4 ⟨rfl, hu4⟩
      have hr24 := hr23.up hu4
      have hr34 := hr3.up hu4
      have hU4 := hU3.trans hu4
      clear hr23 hr3
      go_wp2_with fail
      refine (c_right (x := y) (l := sortS y) (by omega) (by rw [HSL.out]; omega) A2 c2 A3 c3 w4 hr24 hr34).mono ?_
      rintro en w5 ⟨rfl, hu5⟩
      rw [decide_eq_true (right_iff.2 ⟨hT, rfl⟩)]
      have hU5 := (hu1.trans hU4).trans hu5
      rw [HSL.out]
      go_wp2_with fail
      go_ret
      exact ⟨rfl, hU5⟩
end Go.Proofs.Ytmmacpicbonhhaa.SaiPure
namespace Go.Proofs.Ytmmacpicbonhhaa
open Go.RowKit
theorem lawSaisLong_calls (A : Option Addr) (c : Nat) (l : List Int) (a0 a1 a2 : Int) (w : World) (h : Rd w .i64 A c l) (ha0 : InK .i64 a0) (ha1 : InK .i64 a1) (ha2 : InK .i64 a2) :
    Calls Try.prog 7 #[.slice A l.length c, .int .i64 a0, .int .i64 a1, .int .i64 a2] w fun e w' => e = .returned (.bool true) ∧ Up w w' := SaiPure.lawSaisLong_calls A c l a0 a1 a2 w h ha0 ha1 ha2
end Go.Proofs.Ytmmacpicbonhhaa
