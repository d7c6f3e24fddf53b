/- The law SaisChecks returns true of any numbers. -/
import Derived.Test.YtmmacpicbonhhaaSaL
namespace Go.Proofs.Ytmmacpicbonhhaa.SaiPure
open Go.RowKit Go.Proofs.Ytmmacpicbonhhaa
set_option maxRecDepth 100000
set_option linter.unusedVariables false

/-- What the law's calls answer, in every later world. -/
structure SRes (w : World) (v : List Int) (n : Int) (e : Ending) (w' : World) : Prop where mk :: (out : Ret2 w v n e w')
set_option maxHeartbeats 4000000 in
theorem saisChecks_bad (A : Option Addr) (c : Nat) (l0 : List Int) (w : World) (hL0 : l0.length ≤ c) (n0 : Nat) (hn0 : (min (l0.length : Int) 60).toNat = n0) (h60 : n0 ≤ 60) (e : Int) (he : e ≠ 0)
    (H1 : ∀ w', Up w w' → Hid (Calls Try.prog 32 #[.slice A n0 c] w' fun en w'' => en = .returned (.int .i64 e) ∧ ∃ q, w'' = w'.drewN q))
    (H2 : ∀ w', Up w w' → Hid (Calls Try.prog 21 #[.slice A n0 c] w' (Ret2 w' [] e)))
    (H3 : ∀ w', Up w w' → Hid (Calls Try.prog 26 #[.slice A n0 c] w' fun en w'' => ∃ v, en = .returned (.tuple #[v, .int .i64 e]) ∧ Up w' w''))
    (H4 : ∀ w', Up w w' → Hid (Calls Try.prog 22 #[.slice A n0 c] w' fun en w'' => ∃ v, en = .returned (.tuple #[v, .int .i64 e]) ∧ Up w' w'')) :
    Calls Try.prog 6 #[.slice A l0.length c] w fun en w' => en = .returned (.bool true) ∧ Up w w' := by
  have hb1 : (e != e) = false := by simp
  have hb3 : (e != 0) = true := by simpa using he
  go_enter Try.func6, Try.ntmps6
  go_wp2_with fail
  have hu := Up.refl w
  refine (H1 _ hu).out.mono ?_
  rintro en w1 ⟨rfl, q1, rfl⟩
  replace hu := hu.drewN q1
  generalize w.drewN q1 = w1 at *
  go_wp2_with fail
  refine (H2 _ hu).out.mono ?_
  rintro en w2 ⟨v2, rfl, hv2, hq⟩
  obtain ⟨A2, c2, rfl, hr2⟩ := hv2.rd
  replace hu := hu.trans hq
  clear hv2 hq w1
  go_wp2_with fail
  refine (H3 _ hu).out.mono ?_
  rintro en w3 ⟨v3, rfl, hq⟩
  replace hr2 := hr2.up hq
  replace hu := hu.trans hq
  clear hq w2
  go_wp2_with fail
  refine (H4 _ hu).out.mono ?_
  rintro en w4 ⟨v4, rfl, hq⟩
  replace hr2 := hr2.up hq
  replace hu := hu.trans hq
  clear hq w3
  go_wp2_with fail
  refine (known17_calls w4).mono ?_
  rintro en w5 ⟨rfl, hq⟩
  replace hr2 := hr2.up hq
  replace hu := hu.trans hq
  clear hq w4
  go_wp2_with fail
  go_ret
  exact ⟨rfl, hu⟩
set_option maxHeartbeats 4000000 in
theorem saisChecks_ok (A : Option Addr) (c : Nat) (l0 : List Int) (w : World) (hL0 : l0.length ≤ c) (n0 : Nat) (hn0 : (min (l0.length : Int) 60).toNat = n0) (h60 : n0 ≤ 60) (S : List Int) (hS : S.length ≤ 60)
    (H1 : ∀ w', Up w w' → Hid (Calls Try.prog 32 #[.slice A n0 c] w' fun en w'' => en = .returned (.int .i64 0) ∧ ∃ q, w'' = w'.drewN q))
    (H2 : ∀ w', Up w w' → Hid (Calls Try.prog 21 #[.slice A n0 c] w' (Ret2 w' S 0)))
    (H3 : ∀ w', Up w w' → Hid (Calls Try.prog 26 #[.slice A n0 c] w' fun en w'' => ∃ v, en = .returned (.tuple #[v, .int .i64 0]) ∧ Up w' w''))
    (H4 : ∀ w', Up w w' → Hid (Calls Try.prog 22 #[.slice A n0 c] w' fun en w'' => ∃ v, en = .returned (.tuple #[v, .int .i64 0]) ∧ Up w' w''))
    (H5 : ∀ w', Up w w' → Hid (Calls Try.prog 23 #[.slice A n0 c] w' (Ret1 w' S))) :
    Calls Try.prog 6 #[.slice A l0.length c] w fun en w' => en = .returned (.bool true) ∧ Up w w' := by
  go_enter Try.func6, Try.ntmps6
  go_wp2_with fail
  have hu := Up.refl w
  refine (H1 _ hu).out.mono ?_
  rintro en w1 ⟨rfl, q1, rfl⟩
  replace hu := hu.drewN q1
  generalize w.drewN q1 = w1 at *
  go_wp2_with fail
  refine (H2 _ hu).out.mono ?_
  rintro en w2 ⟨v2, rfl, hv2, hq⟩
  obtain ⟨A2, c2, rfl, hr2⟩ := hv2.rd
  replace hu := hu.trans hq
  clear hv2 hq w1
  go_wp2_with fail
  refine (H3 _ hu).out.mono ?_
  rintro en w3 ⟨v3, rfl, hq⟩
  replace hr2 := hr2.up hq
  replace hu := hu.trans hq
  clear hq w2
  go_wp2_with fail
  refine (H4 _ hu).out.mono ?_
  rintro en w4 ⟨v4, rfl, hq⟩
  replace hr2 := hr2.up hq
  replace hu := hu.trans hq
  clear hq w3
  go_wp2_with fail
  refine (known17_calls w4).mono ?_
  rintro en w5 ⟨rfl, hq⟩
  replace hr2 := hr2.up hq
  replace hu := hu.trans hq
  clear hq w4
  go_wp2_with fail
  refine (H5 _ hu).out.mono ?_
  rintro en w6 ⟨v6, rfl, hv6, hq⟩
  obtain ⟨A6, c6, rfl, hr6⟩ := hv6.rd
  replace hr2 := hr2.up hq
  replace hu := hu.trans hq
  clear hv6 hq w5
  go_wp2_with fail
  refine (c_same S S (by omega) A2 c2 A6 c6 w6 hr2 hr6).mono ?_
  rintro en w7 ⟨rfl, q7, rfl⟩
  rw [decide_eq_true (show S = S from rfl)]
  have hu7 := hu.drewN q7
  go_wp2_with fail
  go_ret
  exact ⟨rfl, hu7⟩
theorem lawSaisChecks_calls (A : Option Addr) (c : Nat) (l : List Int) (w : World) (h : Rd w .i64 A c l) :
    Calls Try.prog 6 #[.slice A l.length c] w fun e w' => e = .returned (.bool true) ∧ Up w w' := by
  have hx : Rd w .i64 A c (l.take 60) := h.take 60
  have h60 : (l.take 60).length ≤ 60 := List.length_take_le _ _
  have hn0 : (min (l.length : Int) 60).toNat = (l.take 60).length := by rw [List.length_take]; omega
  have hL := h.le
  generalize l.take 60 = x at *
  by_cases hT : Txt x
  · have h0 : chk x = 0 := (txt_iff x).2 hT
    exact saisChecks_ok A c l w hL _ hn0 h60 (sortS x) (by rw [sortS_len]; exact h60)
      (fun w' hu => Lib.hid (by rw [← h0]; exact c_refCheck x (by omega) A c w' (hx.up hu)))
      (fun w' hu => Lib.hid (order_calls hT (by omega) A c w' (hx.up hu)))
      (fun w' hu => Lib.hid ((levels_calls hT (by omega) A c w' (hx.up hu)).mono fun _ _ ⟨v, d, he, _, hq, _⟩ => ⟨v, he, hq⟩))
      (fun w' hu => Lib.hid ((ranks_calls hT (by omega) A c w' (hx.up hu)).mono fun _ _ ⟨v, he, _, hq⟩ => ⟨v, he, hq⟩))
      (fun w' hu => Lib.hid (c_sort hT (by omega) A c w' (hx.up hu)))
  · have h0 : chk x ≠ 0 := fun e => hT ((txt_iff x).1 e)
    exact saisChecks_bad A c l w hL _ hn0 h60 (chk x) h0
      (fun w' hu => Lib.hid (c_refCheck x (by omega) A c w' (hx.up hu)))
      (fun w' hu => Lib.hid (order_bad x (by omega) h0 A c w' (hx.up hu)))
      (fun w' hu => Lib.hid ((levels_bad x (by omega) h0 A c w' (hx.up hu)).mono fun _ _ ⟨he, hq⟩ => ⟨_, he, hq⟩))
      (fun w' hu => Lib.hid ((ranks_bad x (by omega) h0 A c w' (hx.up hu)).mono fun _ _ ⟨v, he, _, hq⟩ => ⟨v, he, hq⟩))
end Go.Proofs.Ytmmacpicbonhhaa.SaiPure
namespace Go.Proofs.Ytmmacpicbonhhaa
open Go.RowKit
theorem lawSaisChecks_calls (A : Option Addr) (c : Nat) (l : List Int) (w : World) (h : Rd w .i64 A c l) :
    Calls Try.prog 6 #[.slice A l.length c] w fun e w' => e = .returned (.bool true) ∧ Up w w' := SaiPure.lawSaisChecks_calls A c l w h
end Go.Proofs.Ytmmacpicbonhhaa
