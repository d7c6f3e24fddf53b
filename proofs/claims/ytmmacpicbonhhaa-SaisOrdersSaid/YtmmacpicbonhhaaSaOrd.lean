/- The law SaisOrders returns true of any numbers. -/
import Derived.Test.YtmmacpicbonhhaaSaL
namespace Go.Proofs.Ytmmacpicbonhhaa.SaiPure
open Go.RowKit Go.Proofs.Ytmmacpicbonhhaa
set_option maxRecDepth 100000
set_option linter.unusedVariables false

set_option maxHeartbeats 4000000 in
theorem lawSaisOrders_calls (A : Option Addr) (c : Nat) (l : List Int) (a : Int) (w : World) (h : Rd w .i64 A c l) (ha : InK .i64 a) :
    Calls Try.prog 4 #[.slice A l.length c, .int .i64 a] w fun e w' => e = .returned (.bool true) ∧ Up w w' := by
  obtain ⟨x, hx, hxl, HT⟩ := c_text l a
  have hsl := Lib.hid (sortS_len x)
  go_enter Try.func4, Try.ntmps4
  go_wp2_with fail
  refine (HT A c w h ha).mono ?_
  rintro en w1 ⟨v1, rfl, hv1, hu1⟩
  obtain ⟨A1, c1, rfl, hr1⟩ := hv1.rd
  clear hv1 HT h
  go_wp2_with fail
  refine (order_calls hx (by omega) A1 c1 w1 hr1).mono ?_
  rintro en w2 ⟨v2, rfl, hv2, hu2⟩
  obtain ⟨A2, c2, rfl, hr2⟩ := hv2.rd
  have hr12 := hr1.up hu2
  replace hu2 := hu1.trans hu2
  clear hv2 hr1 hu1
  go_wp2_with fail
  refine (ranks_calls hx (by omega) A1 c1 w2 hr12).mono ?_
  rintro en w3 ⟨v3, rfl, hv3, hu3⟩
  obtain ⟨A3, c3, rfl, hr3⟩ := hv3.rd
  have hr13 := hr12.up hu3
  have hr23 := hr2.up hu3
  replace hu3 := hu2.trans hu3
  clear hv3 hr12 hr2 hu2
  go_wp2_with fail
  refine (c_sort hx (by omega) A1 c1 w3 hr13).mono ?_
  rintro en w4 ⟨v4, rfl, hv4, hu4⟩
  obtain ⟨A4, c4, rfl, hr4⟩ := hv4.rd
  have hr24 := hr23.up hu4
  have hr34 := hr3.up hu4
  replace hu4 := hu3.trans hu4
  clear hv4 hr13 hr23 hr3 hu3
  go_wp2_with fail
  refine (c_refTurned (sortS x) (by rw [hsl.out]; omega) (sortS_good x) A4 c4 w4 hr4).mono ?_
  rintro en w5 ⟨v5, rfl, hv5, hu5⟩
  obtain ⟨A5, c5, rfl, hr5⟩ := hv5.rd
  have hr25 := hr24.up hu5
  have hr35 := hr34.up hu5
  have hr45 := hr4.up hu5
  replace hu5 := hu4.trans hu5
  clear hv5 hr24 hr34 hr4 hu4
  go_wp2_with fail
  refine (known17_calls w5).mono ?_
  rintro en w6 ⟨rfl, hu6⟩
  have hr26 := hr25.up hu6
  have hr36 := hr35.up hu6
  have hr46 := hr45.up hu6
  have hr56 := hr5.up hu6
  replace hu6 := hu5.trans hu6
  clear hr25 hr35 hr45 hr5 hu5
  go_wp2_with fail
  refine (c_same (sortS x) (sortS x) (by rw [hsl.out]; omega) A2 c2 A4 c4 w6 hr26 hr46).mono ?_
  rintro en w7 ⟨rfl, q7, rfl⟩
  rw [decide_eq_true (show sortS x = sortS x from rfl)]
  have hr37 := hr36.drewN q7
  have hr57 := hr56.drewN q7
  have hu7 := hu6.drewN q7
  generalize w6.drewN q7 = w7 at *
  clear hr26 hr36 hr46 hr56 hu6
  go_wp2_with fail
  refine (c_same (outOf (sortS x).length (sortS x)) (outOf (sortS x).length (sortS x)) (by rw [outOf_len, hsl.out]; omega) A3 c3 A5 c5 w7 hr37 hr57).mono ?_
  rintro en w8 ⟨rfl, q8, rfl⟩
  rw [decide_eq_true (show outOf (sortS x).length (sortS x) = outOf (sortS x).length (sortS x) from rfl)]
  have hu8 := hu7.drewN q8
  clear hr37 hr57
  go_wp2_with fail
  go_ret
  exact ⟨rfl, hu8⟩
end Go.Proofs.Ytmmacpicbonhhaa.SaiPure
namespace Go.Proofs.Ytmmacpicbonhhaa
open Go.RowKit
theorem lawSaisOrders_calls (A : Option Addr) (c : Nat) (l : List Int) (a : Int) (w : World) (h : Rd w .i64 A c l) (ha : InK .i64 a) :
    Calls Try.prog 4 #[.slice A l.length c, .int .i64 a] w fun e w' => e = .returned (.bool true) ∧ Up w w' := SaiPure.lawSaisOrders_calls A c l a w h ha
end Go.Proofs.Ytmmacpicbonhhaa
