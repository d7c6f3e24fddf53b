/- The law SaisBytes returns true of any documents. -/
import Derived.Test.YtmmacpicbonhhaaSaL
import Derived.Test.YtmmacpicbonhhaaAlp9
namespace Go.Proofs.Ytmmacpicbonhhaa.SaiPure
open Go.RowKit Go.Proofs.Ytmmacpicbonhhaa
set_option maxRecDepth 100000
set_option linter.unusedVariables false

theorem textOf_rng : ∀ ds : List (List Int), (∀ d ∈ ds, ∀ z ∈ d, InK .u8 z) → ∀ z ∈ textOf ds, 1 ≤ z ∧ z ≤ 65535 := fun ds h z hz => by
  unfold textOf at hz
  obtain ⟨t, ht, hz⟩ := List.mem_flatten.1 hz
  obtain ⟨d, hd, rfl⟩ := List.mem_map.1 ht
  rcases List.mem_append.1 hz with hz | hz
  · obtain ⟨y, hy, rfl⟩ := List.mem_map.1 hz
    have := (h d hd y hy).u8
    omega
  · rw [List.mem_singleton] at hz; omega
theorem textOf_le : ∀ ds : List (List Int), (∀ d ∈ ds, d.length ≤ 60) → (textOf ds).length ≤ 61 * ds.length
  | [], _ => by simp [textOf]
  | d :: ds, h => by
    have h1 := textOf_le ds fun d hd => h d (by simp [hd])
    have h2 := h d (by simp)
    have : textOf (d :: ds) = pattern d ++ [1] ++ textOf ds := by simp [textOf]
    rw [this]
    simp [pattern]
    omega
theorem clip8_le (ls : List (List Int)) : (textOf (clip8 ls)).length ≤ 488 := by
  have := textOf_le (clip8 ls) fun d hd => by
    unfold clip8 at hd
    obtain ⟨e, _, rfl⟩ := List.mem_map.1 hd
    exact List.length_take_le _ _
  have h8 : (clip8 ls).length ≤ 8 := by
    unfold clip8
    rw [List.length_map]
    exact List.length_take_le _ _
  omega
theorem RdL.bytes {w : World} {A : Option Addr} {c : Nat} {ds : List (List Int)} (h : RdL w .u8 A c ds) : ∀ d ∈ ds, ∀ z ∈ d, InK .u8 z := fun d hd z hz => by
  obtain ⟨k, hk, rfl⟩ := List.mem_iff_getElem.1 hd
  obtain ⟨ad, d', A', c', _, _, hr, HL⟩ := h.get k hk
  have e := HL.out
  rw [List.getD_eq_getElem?_getD, List.getElem?_eq_getElem hk] at e
  have e : ds[k] = d' := e
  rw [e] at hz
  exact hr.wf z hz

set_option maxHeartbeats 2000000 in
theorem bytes_calls {ds : List (List Int)} (hT : Txt (textOf ds ++ [0])) (hb : (textOf ds).length ≤ 60000) (A : Option Addr) (c : Nat) (w : World) (h : RdL w .u8 A c ds) :
    Calls Try.prog 35 #[.slice A ds.length c] w (Ret2 w (sortS (textOf ds ++ [0])) 0) := by
  have hyl : (textOf ds ++ [0]).length ≤ 60001 := by simp; omega
  have HA := Lib.hid (alphaText_calls A c ds w h (by omega))
  generalize textOf ds ++ [0] = y at *
  go_enter Try.func35, Try.ntmps35
  go_wp2_with fail
  refine (HA.out).mono ?_
  rintro en w1 ⟨v1, rfl, hv1, hu1⟩
  obtain ⟨A1, c1, rfl, hr1⟩ := hv1.rd
  have HO := Lib.hid (order_calls hT (by omega) A1 c1 w1 hr1)
  clear HA hv1 hr1
  go_wp2_with fail
  refine (HO.out).mono ?_
  rintro en w2 ⟨v2, rfl, hv2, hu2⟩
  have hz := hu1.size
  have HV := Lib.hid (hv2.mono hz)
  have HU := Lib.hid (hu1.trans hu2)
  clear HO hv2 hu2
  go_wp2_with fail
  go_ret2
  exact ⟨_, rfl, HV.out, HU.out⟩

set_option maxHeartbeats 4000000 in
theorem lawSaisBytes_calls (A : Option Addr) (c : Nat) (ls : List (List Int)) (w : World) (h : RdL w .u8 A c ls) :
    Calls Try.prog 8 #[.slice A ls.length c] w fun e w' => e = .returned (.bool true) ∧ Up w w' := by
  have HD := Lib.hid (law14Docs_calls A c ls w h)
  have hb := clip8_le ls
  generalize clip8 ls = ds at *
  go_enter Try.func8, Try.ntmps8
  go_wp2_with fail
  refine (HD.out).mono ?_
  rintro en w1 ⟨A1, c1, rfl, hr1, hu1⟩
  have hT := txt_of (textOf ds) (textOf_rng ds (RdL.bytes hr1))
  have HB := Lib.hid (bytes_calls hT (by omega) A1 c1 w1 hr1)
  have hyl : (textOf ds ++ [0]).length ≤ 489 := by simp; omega
  clear HD
  go_wp2_with fail
  refine (HB.out).mono ?_
  rintro en w2 ⟨v2, rfl, hv2, hu2⟩
  have hr12 := hr1.up hu2
  have HT := Lib.hid (ref14Text_calls A1 c1 ds w2 hr12 (by omega))
  generalize textOf ds ++ [0] = y at *
  have HSL := Lib.hid (sortS_len y)
  obtain ⟨A2, c2, rfl, hr2⟩ := hv2.rd
  replace hu2 := hu1.trans hu2
  clear HB hv2 hr1 hu1 hr12
  go_wp2_with fail
  refine (HT.out).mono ?_
  rintro en w3 ⟨v3, rfl, hv3, hu3⟩
  obtain ⟨A3, c3, rfl, hr3⟩ := hv3.rd
  have hr23 := hr2.up hu3
  replace hu3 := hu2.trans hu3
  have HO := Lib.hid (order_calls hT (by omega) A3 c3 w3 hr3)
  clear HT hv3 hr2 hu2
  go_wp2_with fail
  refine (HO.out).mono ?_
  rintro en w4 ⟨v4, rfl, hv4, hu4⟩
  obtain ⟨A4, c4, rfl, hr4⟩ := hv4.rd
  have hr24 := hr23.up hu4
  have hr34 := hr3.up hu4
  replace hu4 := hu3.trans hu4
  clear HO hv4 hr23 hr3 hu3
  go_wp2_with fail
  refine (known17_calls w4).mono ?_
  rintro en w5 ⟨rfl, hu5⟩
  have hr25 := hr24.up hu5
  have hr35 := hr34.up hu5
  have hr45 := hr4.up hu5
  replace hu5 := hu4.trans hu5
  clear hr24 hr34 hr4 hu4
  go_wp2_with fail
  refine (c_same (sortS y) (sortS y) (by rw [HSL.out]; omega) A2 c2 A4 c4 w5 hr25 hr45).mono ?_
  rintro en w6 ⟨rfl, q6, rfl⟩
  rw [decide_eq_true (show sortS y = sortS y from rfl)]
  have hr26 := hr25.drewN q6
  have hr36 := hr35.drewN q6
  have hu6 := hu5.drewN q6
  generalize w5.drewN q6 = w6 at *
  clear hr25 hr35 hr45 hu5
  go_wp2_with fail
  refine (c_right (x := y) (l := sortS y) (by omega) (by rw [HSL.out]; omega) A3 c3 A2 c2 w6 hr36 hr26).mono ?_
  rintro en w7 ⟨rfl, hu7⟩
  rw [decide_eq_true (right_iff.2 ⟨hT, rfl⟩)]
  have hu8 := hu6.trans hu7
  go_wp2_with fail
  go_ret
  exact ⟨rfl, hu8⟩
end Go.Proofs.Ytmmacpicbonhhaa.SaiPure
namespace Go.Proofs.Ytmmacpicbonhhaa
open Go.RowKit
theorem lawSaisBytes_calls (A : Option Addr) (c : Nat) (ls : List (List Int)) (w : World) (h : RdL w .u8 A c ls) :
    Calls Try.prog 8 #[.slice A ls.length c] w fun e w' => e = .returned (.bool true) ∧ Up w w' := SaiPure.lawSaisBytes_calls A c ls w h
end Go.Proofs.Ytmmacpicbonhhaa
