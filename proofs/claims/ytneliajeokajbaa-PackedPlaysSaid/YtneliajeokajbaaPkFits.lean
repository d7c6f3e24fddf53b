/- The law PackedFits returns true of any numbers. -/
import Derived.Test.YtneliajeokajbaaPkPar
import Derived.Test.YtneliajeokajbaaPkWiM
import Derived.Test.YtneliajeokajbaaPkKnM
namespace Go.Proofs.Ytneliajeokajbaa
open Go.RowKit
set_option maxRecDepth 100000

theorem fit31_all (l : List Int) : fitB 31 l = true ↔ ∀ j, j < l.length → width12 (l.getD j 0) ≠ 0 := by
  have h1 : ∀ x, fit1 31 x = true ↔ width12 x ≠ 0 := fun x => by
    rw [fit1_width 31 x (by omega) (by omega)]
    have h2 := width12_le x
    have h3 : width12 x ≠ 0 → 0 ≤ x := fun h => by
      unfold width12 at h
      split at h
      · rename_i h4; exact h4.1
      · exact absurd rfl h
    simp only [Bool.and_eq_true, decide_eq_true_eq, Bool.not_eq_true', decide_eq_false_iff_not]
    constructor
    · intro h; exact h.1.2
    · intro h; exact ⟨⟨h3 h, h⟩, h2⟩
  unfold fitB
  rw [List.all_eq_true]
  constructor
  · intro h j hj
    exact (h1 _).1 (h _ (by rw [List.getD_eq_getElem?_getD, List.getElem?_eq_getElem hj]; exact List.getElem_mem _))
  · intro h x hx
    obtain ⟨j, hj, rfl⟩ := List.mem_iff_getElem.1 hx
    have := h j hj
    rw [List.getD_eq_getElem?_getD, List.getElem?_eq_getElem hj] at this
    exact (h1 _).2 this
theorem PArr.wf {w : World} {g base W n : Nat} {ws : List Int} (h : PArr w g base W n ws) : ∀ x ∈ ws, InK .u64 x := by
  obtain ⟨A, c, _, ho⟩ := h
  exact ho.wf
theorem PkOk.same {W n : Nat} {ws ws' l : List Int} (h : PkOk W n ws l) (h' : PkOk W n ws' l) (hw : ∀ x ∈ ws, InK .u64 x) (hw' : ∀ x ∈ ws', InK .u64 x) : ws = ws' :=
  words_eq hw hw' (by rw [h.size, h'.size]) fun b => by rw [h.bits, h'.bits]

set_option maxHeartbeats 8000000 in
theorem lawPackedFits_calls (A : Option Addr) (c : Nat) (l : List Int) (n : Int) (w : World) (h : Rd w .i64 A c l) (hn : InK .i64 n) :
    Calls Try.prog 11 #[.slice A l.length c, .int .i64 n] w fun e w' => e = .returned (.bool true) ∧ Up w w' := by
  have hx : Rd w .i64 A c (l.take 40) := h.take 40
  have h40 : (l.take 40).length ≤ 40 := List.length_take_le _ _
  have hn0 : (min (l.length : Int) 40).toNat = (l.take 40).length := by rw [List.length_take]; omega
  have hn1 : (if (40 : Int) < (l.length : Int) then (40 : Int) else (l.length : Int)) = ((l.take 40).length : Int) := by rw [List.length_take]; split <;> omega
  have hL := h.le
  have hxc := hx.le
  generalize l.take 40 = x at *
  clear h
  go_enter Try.func11, Try.ntmps11
  go_wp2_with fail
  refine (packedFit_calls A c x w hx (by omega)).mono ?_
  rintro en w1 ⟨hu1, hp⟩
  have hx1 := hx.up hu1
  rcases hp with ⟨hf, rfl⟩ | ⟨hf, hp⟩
  · have HNO : Hid (¬ ∀ j, j < x.length → width12 (x.getD j 0) ≠ 0) := Lib.hid fun hh => by
      rw [(fit31_all x).2 hh] at hf
      cases hf
    clear hf
    go_wp2_with fail
    refine (packedWidth_calls n w1 hn).mono ?_
    rintro en w2 ⟨rfl, rfl⟩
    go_wp2_with fail
    refine (ref12Width_calls n w1 hn).mono ?_
    rintro en w2 ⟨rfl, rfl⟩
    generalize width12 n = wn at *
    go_wp2_with fail
    go_loopw [4, 7, 8] (fun _ wd i wr => ∃ k v : Nat, k ≤ x.length ∧ i = .int .i64 k ∧ wd = .int .i64 v ∧ Hid (v = maxW (x.take k)) ∧ v ≤ 31 ∧ Hid (∀ j, j < k → width12 (x.getD j 0) ≠ 0) ∧ w1 = wr) (fun _ _ i _ => x.length - (intOf i).toNat)
    case atStart => exact ⟨0, 1, Nat.zero_le _, rfl, rfl, Lib.hid rfl, by omega, Lib.hid (fun j hj => absurd hj (by omega)), rfl⟩
    case round =>
      obtain ⟨k, v, hk, rfl, rfl, HV, hv, HNZ, rfl⟩ := hrel
      by_cases hlt : k < x.length
      · obtain ⟨ad, z, rfl, hcz, HZ, hzr⟩ := hx1.get k hlt
        by_cases h0 : width12 z = 0
        · have HR := Lib.hid (ref12Width_calls z w1 hzr)
          rw [h0] at HR
          have hu := hu1
          go_wp2_with fail
          refine (HR.out).mono ?_
          rintro en w3 ⟨rfl, rfl⟩
          go_wp2_with fail
          refine (law12known_calls w1).mono ?_
          rintro en w3 ⟨rfl, hu3⟩
          go_wp2_with fail
          go_ret
          exact ⟨rfl, hu.trans hu3⟩
        · skip
          have HT := Lib.hid (take_succ_getD x k 0 hlt)
          have HW := Lib.hid (width12_le z)
          have HNX := Lib.hid (show ∀ j, j < k + 1 → width12 (x.getD j 0) ≠ 0 from fun j hj => by
            by_cases e : j = k
            · rw [e, HZ.out]; exact h0
            · exact HNZ.out j (by omega))
          have hzb : ((width12 z : Int) == 0) = false := by simpa using (show ((width12 z : Nat) : Int) ≠ 0 by omega)
          have HV2 := Lib.hid (show max v (width12 z) = maxW (x.take (k + 1)) by rw [HT.out, HZ.out, maxW_snoc, HV.out])
          have HR2 := Lib.hid (ref12Width_calls z w1 hzr)
          generalize width12 z = wz at *
          have hwz := HW.out
          clear h0
          go_wp2_with fail
          refine (HR2.out).mono ?_
          rintro en w3 ⟨rfl, rfl⟩
          go_wp2_with fail
          refine (HR2.out).mono ?_
          rintro en w3 ⟨rfl, rfl⟩
          go_wp2_with fail
          refine ⟨⟨k + 1, max v wz, by omega, by simp, congrArg (Value.int .i64) (by omega), HV2, by omega, HNX, trivial⟩, ?_⟩
          simp [intOf]; omega
      · exact absurd (fun j hj => HNZ.out j (by omega)) HNO.out
  · obtain ⟨g, ws, rfl, hg, ha, hok⟩ := hp (by omega)
    have HNA := Lib.hid ((fit31_all x).1 hf)
    clear hf hp
    go_wp2_with fail
    refine (packedWidth_calls n w1 hn).mono ?_
    rintro en w2 ⟨rfl, rfl⟩
    go_wp2_with fail
    refine (ref12Width_calls n w1 hn).mono ?_
    rintro en w2 ⟨rfl, rfl⟩
    generalize width12 n = wn at *
    go_wp2_with fail
    go_loopw [4, 7, 8] (fun _ wd i wr => ∃ k v : Nat, k ≤ x.length ∧ i = .int .i64 k ∧ wd = .int .i64 v ∧ Hid (v = maxW (x.take k)) ∧ v ≤ 31 ∧ Hid (∀ j, j < k → width12 (x.getD j 0) ≠ 0) ∧ w1 = wr) (fun _ _ i _ => x.length - (intOf i).toNat)
    case atStart => exact ⟨0, 1, Nat.zero_le _, rfl, rfl, Lib.hid rfl, by omega, Lib.hid (fun j hj => absurd hj (by omega)), rfl⟩
    case round =>
      obtain ⟨k, v, hk, rfl, rfl, HV, hv, HNZ, rfl⟩ := hrel
      by_cases hlt : k < x.length
      · obtain ⟨ad, z, rfl, hcz, HZ, hzr⟩ := hx1.get k hlt
        have h0 : width12 z ≠ 0 := by rw [← HZ.out]; exact HNA.out k hlt
        have HT := Lib.hid (take_succ_getD x k 0 hlt)
        have HW := Lib.hid (width12_le z)
        have HNX := Lib.hid (show ∀ j, j < k + 1 → width12 (x.getD j 0) ≠ 0 from fun j hj => by
          by_cases e : j = k
          · rw [e, HZ.out]; exact h0
          · exact HNZ.out j (by omega))
        have hzb : ((width12 z : Int) == 0) = false := by simpa using (show ((width12 z : Nat) : Int) ≠ 0 by omega)
        have HV2 := Lib.hid (show max v (width12 z) = maxW (x.take (k + 1)) by rw [HT.out, HZ.out, maxW_snoc, HV.out])
        have HR2 := Lib.hid (ref12Width_calls z w1 hzr)
        generalize width12 z = wz at *
        have hwz := HW.out
        clear h0
        go_wp2_with fail
        refine (HR2.out).mono ?_
        rintro en w3 ⟨rfl, rfl⟩
        go_wp2_with fail
        refine (HR2.out).mono ?_
        rintro en w3 ⟨rfl, rfl⟩
        go_wp2_with fail
        refine ⟨⟨k + 1, max v wz, by omega, by simp, congrArg (Value.int .i64) (by omega), HV2, by omega, HNX, trivial⟩, ?_⟩
        simp [intOf]; omega
      · have hke : k = x.length := by omega
        subst hke
        have hW : v = maxW x := by have := HV.out; rwa [List.take_length] at this
        have hW1 := maxW_pos x
        rw [← hW] at ha hok hW1
        have HTE := Lib.hid (tells_calls g w.heap.size v ws x A c w1 ha hok hW1 hv (by omega) hx1)
        clear hW HV HNZ HNA
        go_wp2_with fail
        refine (HTE.out).mono ?_
        rintro en w2 ⟨rfl, hu2⟩
        have ha2 := ha.up hu2
        have hU2 := hu1.trans hu2
        clear HTE hx1 hx hu2 hu1
        have HBY := Lib.hid (packedBytes_calls g w.heap.size v x.length ws x w2 ha2 hok hW1 hv (by omega))
        rw [hok.bytes] at HBY
        have HDL := Lib.hid (docBytes_len v x)
        have hvl := vput_len10 x.length (by omega)
        have hWl : v * x.length ≤ 31 * 40 := Nat.mul_le_mul hv h40
        have hdl : (docBytes v x).length ≤ 400 := by rw [HDL.out]; omega
        have HPA := fun w' A' c' D hD hr => Lib.hid (packedParse_calls v hW1 hv x [7] (by omega) (by decide) (Lib.hid hok.fit) A' c' w' D hD hr)
        have HD := Lib.hid (show docBytes v x = docBytes v x from rfl)
        generalize hDD : docBytes v x = D at *
        have HDD := Lib.hid hDD
        have Hok := Lib.hid hok
        clear hDD hWl hvl hok HD
        go_wp2_with fail
        refine (HBY.out).mono ?_
        rintro en w3 ⟨v3, rfl, hv3, hu3⟩
        have ha3 := ha2.up hu3
        have hU3 := hU2.trans hu3
        have hlo3 := hv3.lt
        have hsz3 := hu3.size
        have hsz2 := hU2.size
        clear HBY ha3 hU3
        go_wp2_with (refine wpl_push_int (t := 76) w2.heap.size 5 .u8 1 Try.underlying76 infoU8 v3 D 7 rfl (InK.of_u8 (by omega) (by omega)) (fun _ => rfl) (fun _ => rfl) hv3 (by omega) (by decide) hsz3 ?_; intro v4 w4 hv4 hu4)
        have hu24 : Up w2 w4 := hu3.thenx hu4 fun i hi e => by have := (hlo3 i e).1; omega
        have ha4 := ha2.up hu24
        have hU4 := hU2.trans hu24
        clear ha2 hU2 hu24 hu3 hu4 hlo3 hv3
        generalize hE : D ++ [7] = E at *
        have HE := Lib.hid hE.symm
        clear hE
        obtain ⟨A4, c4, rfl, hr4⟩ := hv4.rd
        have HPP := HPA w4 A4 c4 E (Lib.hid rfl) hr4
        clear hv4 hr4 HPA
        refine (HPP.out).mono ?_
        rintro en w5 ⟨g', ws', R, cr, rfl, ha5, hok5, hrR, hu5⟩
        have hws := Hok.out.same hok5 ha4.wf ha5.wf
        subst hws
        have ha45 := ha4.up hu5
        have hU5 := hU4.trans hu5
        have Hok5 := Lib.hid hok5
        clear HPP ha4 hU4 hu5 hok5
        go_wp2_with fail
        refine (law12known_calls w5).mono ?_
        rintro en w6 ⟨rfl, hu6⟩
        have ha46 := ha45.up hu6
        have ha6 := ha5.up hu6
        have hr6 := hrR.up hu6
        have hU6 := hU5.trans hu6
        clear ha45 ha5 hrR hU5 hu6
        go_wp2_with fail
        refine (packedSame_calls g w.heap.size v x.length ws g' w4.heap.size v x.length ws w6 ha46 ha6).mono ?_
        rintro en w7 ⟨rfl, hq7⟩
        rw [decide_eq_true (show v = v ∧ x.length = x.length ∧ ws = ws from ⟨rfl, rfl, rfl⟩)]
        have hr7 := hr6.up hq7.up
        have hU7 := hU6.trans hq7.up
        clear ha46 ha6 hr6 hU6 hq7
        have hr8 := rd_one w7 .u8 5 7 (InK.of_u8 (by omega) (by omega))
        have hua : Up w7 (w7.alloc (.cells #[.int .u8 7] 5)) := (Up.refl w7).alloc _
        go_wp2_with fail
        refine (refSame_eq (hr7.up hua) hr8 rfl rfl rfl).mono ?_
        rintro en w8 ⟨rfl, hq8⟩
        have hU8 := (hU7.trans hua).trans hq8.up
        go_wp2_with fail
        go_ret
        exact ⟨rfl, hU8⟩
end Go.Proofs.Ytneliajeokajbaa
