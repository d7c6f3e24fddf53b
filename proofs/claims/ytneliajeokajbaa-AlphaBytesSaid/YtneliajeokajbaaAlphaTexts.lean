/- AlphaTexts: the walk of the law. -/
import Derived.Test.YtneliajeokajbaaAlpha6
import Derived.Test.YtneliajeokajbaaAlpha7
import Derived.Test.YtneliajeokajbaaAlphaKnown
namespace Go.Proofs.Ytneliajeokajbaa
open Go.RowKit
set_option maxRecDepth 100000

theorem RdL.wfAll {w : World} {k : IntKind} {A : Option Addr} {c : Nat} {ls : List (List Int)} (h : RdL w k A c ls) : ∀ d ∈ ls, ∀ x ∈ d, InK k x := by
  intro d hd
  obtain ⟨i, hi, rfl⟩ := List.mem_iff_getElem.1 hd
  obtain ⟨_, l, _, _, _, _, h2, HL⟩ := h.get i hi
  have e : ls[i] = l := by rw [← HL.out, List.getD_eq_getElem?_getD, List.getElem?_eq_getElem hi]; rfl
  rw [e]
  exact h2.wf
theorem textOf_len (ds : List (List Int)) (n : Nat) (h : ∀ d ∈ ds, d.length ≤ n) : (textOf ds).length ≤ ds.length * (n + 1) := by
  induction ds with
  | nil => simp [textOf]
  | cons d ds ih =>
    have e : textOf (d :: ds) = pattern d ++ [1] ++ textOf ds := by simp [textOf]
    have h1 := ih fun d' h' => h d' (by simp [h'])
    have h2 := h d (by simp)
    rw [e, List.length_append, List.length_append, show (d :: ds).length = ds.length + 1 from rfl, Nat.add_mul]
    simp [pattern]
    omega
theorem clip8_text (ls : List (List Int)) : (textOf (clip8 ls)).length ≤ 488 := by
  have h1 : (clip8 ls).length ≤ 8 := by unfold clip8; simp only [List.length_map]; exact List.length_take_le _ _
  have h2 := textOf_len (clip8 ls) 60 (fun d hd => by
    unfold clip8 at hd
    obtain ⟨x, _, rfl⟩ := List.mem_map.1 hd
    exact List.length_take_le _ _)
  have : (clip8 ls).length * (60 + 1) ≤ 8 * 61 := Nat.mul_le_mul_right _ h1
  omega

set_option maxHeartbeats 4000000 in
theorem lawAlphaTexts_calls (A : Option Addr) (c : Nat) (ls : List (List Int)) (B : Option Addr) (d : Nat) (t0 : List Int) (w : World) (hl : RdL w .u8 A c ls) (h1 : Rd w .i64 B d t0) :
    Calls Try.prog 3 #[.slice A ls.length c, .slice B t0.length d] w fun e w' => e = .returned (.bool true) ∧ Up w w' := by
  obtain ⟨m, hm, hmc, hm2, HM, hrdm⟩ := min_of h1 200
  rw [show ((200 : Nat) : Int) = 200 from rfl] at hm hm2
  have HT := Lib.hid (List.length_take_le 200 t0)
  generalize hs : t0.take 200 = t at *
  clear hs
  have hms : m = t.length := HM.out
  subst hms
  have HX := Lib.hid (clip8_text ls)
  go_enter Try.func3, Try.ntmps3
  go_wp2_with fail
  refine (law14Docs_calls A c ls w hl).mono ?_
  rintro e w1 ⟨B1, d1, rfl, hr1, hu1⟩
  have HW := Lib.hid hr1.wfAll
  generalize clip8 ls = ds at *
  have HD := Lib.hid (docsOf_text ds HW.out)
  go_wp2_with fail
  refine (alphaText_calls B1 d1 ds w1 hr1 (by have := HX.out; omega)).mono ?_
  rintro e w2 ⟨v2, rfl, hv2, hu2⟩
  obtain ⟨B2, c2, rfl, hr2⟩ := hv2.rd
  have HXL : Hid ((textOf ds ++ [0]).length ≤ 489) := Lib.hid (by have := HX.out; simp; omega)
  generalize hX : textOf ds ++ [0] = X at *
  go_wp2_with fail
  refine (alphaDocs_calls B2 c2 X w2 hr2 (by have := HXL.out; omega)).mono ?_
  rintro e w3 ⟨hu3, hp⟩
  rcases hp with ⟨h0, _⟩ | ⟨ds', B3, d3, h0, rfl, hr3⟩
  · rw [HD.out] at h0; cases h0
  rw [HD.out] at h0
  obtain rfl := Option.some.inj h0
  clear h0
  have hU3 := hu1.trans (hu2.trans hu3)
  have hr13 := (hr1.up hu2).up hu3
  go_wp2_with fail
  refine (ref14Text_calls B1 d1 ds w3 hr13 (by have := HX.out; omega)).mono ?_
  rintro e w4 ⟨v4, rfl, hv4, hu4⟩
  rw [hX] at hv4
  obtain ⟨B4, c4, rfl, hr4⟩ := hv4.rd
  have HXX := Lib.hid hX
  clear hX
  go_wp2_with fail
  refine (ref6Same_eq ((hr2.up hu3).up hu4) hr4 rfl rfl rfl).mono ?_
  rintro e w5 ⟨rfl, hq5⟩
  have hu45 := hu4.trans hq5.up
  go_wp2_with fail
  refine (law14same_calls B3 B1 d3 d1 ds ds w5 (hr3.up hu45) (hr13.up hu45) rfl).mono ?_
  rintro e w6 ⟨rfl, hu6⟩
  have hU6 := hU3.trans (hu45.trans hu6)
  have hrt := hrdm.up hU6
  clear hr13 hr1 hr2 hr3 hr4 hv2 hv4 HW
  go_wp2_with fail
  refine (alphaDocs_calls B d t w6 hrt (by have := HT.out; omega)).mono ?_
  rintro e w7 ⟨hu7, hp⟩
  rcases hp with ⟨hn, rfl⟩ | ⟨dd, B7, d7, hn, rfl, hr7⟩
  · have HN := Lib.hid hn
    clear hn
    go_wp2_with fail
    refine (ref14Docs_calls B d t w7 (hrt.up hu7) (by have := HT.out; omega)).mono ?_
    rintro e w8 ⟨hu8, hp⟩
    rcases hp with ⟨_, v8, rfl⟩ | ⟨_, _, _, h9, _⟩
    case inr => rw [HN.out] at h9; cases h9
    go_wp2_with fail
    refine (law14known_calls w8).mono ?_
    rintro e w9 ⟨rfl, hu9⟩
    go_wp2_with fail
    go_ret
    exact ⟨rfl, hU6.trans (hu7.trans (hu8.trans hu9))⟩
  · have HN := Lib.hid hn
    clear hn
    have HTX := Lib.hid (textOf_docs t dd HN.out)
    have HTL : Hid ((textOf dd).length ≤ 200) := Lib.hid (by have h1 := HT.out; rw [← HTX.out] at h1; simp at h1; omega)
    go_wp2_with fail
    refine (ref14Docs_calls B d t w7 (hrt.up hu7) (by have := HT.out; omega)).mono ?_
    rintro e w8 ⟨hu8, hp⟩
    rcases hp with ⟨h9, _⟩ | ⟨dd', B8, d8, h9, rfl, hr8⟩
    · rw [HN.out] at h9; cases h9
    rw [HN.out] at h9
    obtain rfl := Option.some.inj h9
    clear h9
    have hr78 := hr7.up hu8
    go_wp2_with fail
    refine (alphaText_calls B7 d7 dd w8 hr78 (by have := HTL.out; omega)).mono ?_
    rintro e w9 ⟨v9, rfl, hv9, hu9⟩
    rw [HTX.out] at hv9
    obtain ⟨B9, c9, rfl, hr9⟩ := hv9.rd
    go_wp2_with fail
    refine (law14known_calls w9).mono ?_
    rintro e w10 ⟨rfl, hu10⟩
    have hu910 := hu9.trans hu10
    go_wp2_with fail
    refine (law14same_calls B7 B8 d7 d8 dd dd w10 (hr78.up hu910) (hr8.up hu910) rfl).mono ?_
    rintro e w11 ⟨rfl, hu11⟩
    go_wp2_with fail
    have hU11 := hu10.trans hu11
    refine (ref6Same_eq (hr9.up hU11) (((hrt.up hu7).up hu8).up (hu9.trans hU11)) rfl rfl rfl).mono ?_
    rintro e w12 ⟨rfl, hq12⟩
    go_wp2_with fail
    go_ret
    exact ⟨rfl, hU6.trans (hu7.trans (hu8.trans (hu9.trans (hU11.trans hq12.up))))⟩
end Go.Proofs.Ytneliajeokajbaa
