-- Written by a program of this session (wip/tools/pp.sh, on the pattern of the kit's print): not typed by hand.
import Derived.Test.YtneliajeokajbaaPExtx0
import Derived.Test.YtneliajeokajbaaPExtx2
import Derived.Test.YtneliajeokajbaaPExtx4
import Derived.Test.YtneliajeokajbaaPExtx5
namespace Go.Proofs.Ytneliajeokajbaa.PExt
open Go.RowKit Go.Proofs.YtneliajeokajbaaW.PrintWords Go.Proofs.YtneliajeokajbaaW.PrintLast Go.Proofs.YtneliajeokajbaaW.PrintMore
attribute [local go_sem] max2_int min2_int max_two min_two max_three min_three max_four min_four   -- for this text's walks alone
set_option linter.unusedVariables false
set_option linter.unusedSimpArgs false

/-! ### extent_Part: function 58 (by hand) -/
def extent_Part.f (k : Nat) (l0 : List (S107)) (a1 : Int) (a2 : Int) : Option ((List (S107)) × Int) := (extent_Check.f k l0).bind fun e => if e = 0 then (extent_all.f k l0).bind fun p => if a1 < 0 then some ([], 10) else if (p.length : Int) < a2 then some ([], 10) else if a2 < a1 then some ([], 10) else if inKs .i64 p = true then extent_Of.f k ((p.take a2.toNat).drop a1.toNat) else none else some ([], e)
theorem extent_Part.mono : ∀ a0 a1 a2 k, LeO (extent_Part.f k a0 a1 a2) (extent_Part.f (k + 1) a0 a1 a2) := by
 intro a0 a1 a2 k r h
 unfold extent_Part.f at h ⊢
 obtain ⟨e, he, h⟩ := Option.bind_eq_some_iff.1 h
 rw [extent_Check.mono _ _ _ he, Option.bind_some]
 by_cases h0 : e = 0
 ·rw [if_pos h0] at h ⊢
  obtain ⟨p, hp, h⟩ := Option.bind_eq_some_iff.1 h
  rw [extent_all.mono _ _ _ hp, Option.bind_some]
  by_cases h1 : a1 < 0
  ·rw [if_pos h1] at h ⊢; exact h
  ·rw [if_neg h1] at h ⊢
   by_cases h2 : (p.length : Int) < a2
   ·rw [if_pos h2] at h ⊢; exact h
   ·rw [if_neg h2] at h ⊢
    by_cases h3 : a2 < a1
    ·rw [if_pos h3] at h ⊢; exact h
    ·rw [if_neg h3] at h ⊢
     by_cases h4 : inKs .i64 p = true
     ·rw [if_pos h4] at h ⊢; exact extent_Of.mono _ _ _ h
     ·rw [if_neg h4] at h; cases h
 ·rw [if_neg h0] at h ⊢; exact h
set_option maxHeartbeats 2000000 in
set_option maxRecDepth 100000 in
theorem extent_Part.calls (k : Nat) (A0 : Option Addr) (c0 : Nat) (l0 : List (S107)) (a1 : Int) (a2 : Int) (r1 : List (S107)) (r2 : Int) (w : World) (hr0 : Kd.C k107 w A0 l0.length l0) (hc0 : l0.length ≤ c0) (h : extent_Part.f k l0 a1 a2 = some (r1, r2)) :
  Calls Try.prog 58 #[.slice A0 l0.length c0, .int .i64 a1, .int .i64 a2] w fun e w' => ∃ v0_ : Value, e = .returned (.tuple #[v0_, .int .i64 r2]) ∧ Kd.R k107 107 w' w.heap.size (fun _ => True) v0_ r1 ∧ Below w.heap.size w w' := by
 unfold extent_Part.f at h
 obtain ⟨e, he, h⟩ := Option.bind_eq_some_iff.1 h
 have HC := Lib.hid (extent_Check.calls k A0 c0 l0 e w hr0 hc0 he)
 have HR := Lib.hid hr0
 have HC0 := Lib.hid hc0
 clear he hr0 hc0
 by_cases h0 : e = 0
 ·subst h0
  rw [if_pos rfl] at h
  obtain ⟨p, hp, h⟩ := Option.bind_eq_some_iff.1 h
  have HP := Lib.hid hp
  have H := Lib.hid h
  clear hp h
  go_enter Try.func58, Try.ntmps58
  go_wp2_with fail
  refine (HC.out).mono ?_
  rintro e w1 ⟨rfl, hb1⟩
  go_wp2_with fail
  refine (extent_all.calls k A0 c0 l0 p w1 (Kd.C_below HR.out hb1) HC0.out HP.out).mono ?_
  rintro e w2 ⟨v, rfl, hv, hb2⟩
  have hB : Below w.heap.size w w2 := below_then hb1 hb1.size hb2
  obtain ⟨Ap, cp, rfl⟩ := Kd.R_slice hv
  have HV := Lib.hid hv
  have hlen : p.length ≤ 9223372036854775807 := Kd.C_max (Kd.R_reads' hv).2.2
  clear hv hb1 hb2
  by_cases h1 : a1 < 0
  ·have H2 := H.out
   rw [if_pos h1] at H2
   obtain ⟨rfl, rfl⟩ : [] = r1 ∧ (10 : Int) = r2 := by simpa using H2
   clear H2
   go_wp2_with fail
   go_ret2
   exact ⟨_, rfl, Kd.R_nil _ _ _ _ _, hB⟩
  ·have H2 := H.out
   rw [if_neg h1] at H2
   have hd1 : decide (a1 < 0) = false := decide_eq_false h1
   have h10 : 0 ≤ a1 := by omega
   clear h1 H
   by_cases h2 : (p.length : Int) < a2
   ·rw [if_pos h2] at H2
    obtain ⟨rfl, rfl⟩ : [] = r1 ∧ (10 : Int) = r2 := by simpa using H2
    clear H2
    go_wp2_with fail
    go_ret2
    exact ⟨_, rfl, Kd.R_nil _ _ _ _ _, hB⟩
   ·rw [if_neg h2] at H2
    have hd2 : decide ((p.length : Int) < a2) = false := decide_eq_false h2
    have h20 : a2 ≤ (p.length : Int) := by omega
    clear h2
    by_cases h3 : a2 < a1
    ·rw [if_pos h3] at H2
     obtain ⟨rfl, rfl⟩ : [] = r1 ∧ (10 : Int) = r2 := by simpa using H2
     clear H2
     go_wp2_with fail
     go_ret2
     exact ⟨_, rfl, Kd.R_nil _ _ _ _ _, hB⟩
    ·rw [if_neg h3] at H2
     have hd3 : decide (a2 < a1) = false := decide_eq_false h3
     have h30 : a1 ≤ a2 := by omega
     clear h3
     obtain ⟨hin, H3⟩ : inKs .i64 p = true ∧ extent_Of.f k ((p.take a2.toNat).drop a1.toNat) = some (r1, r2) := by
      cases hi : inKs .i64 p with
      | true => rw [hi, if_pos rfl] at H2; exact ⟨rfl, H2⟩
      | false => rw [hi, if_neg (by decide)] at H2; cases H2
     have HQ := Lib.hid H3
     have HRd := Lib.hid (rd_of_kd (Kd.R_reads' HV.out).2.2 (inKs_of hin))
     obtain ⟨i, hi, hz, hsz, hby⟩ := info_parts info3
     have HCP := Lib.hid (Kd.R_reads' HV.out).2.1
     clear H2 H3 hin
     have hrd2 : Rd w2 .i64 Ap cp p := by
      have h9 := Kd.own_of_R HV.out
      obtain ⟨A9, c9, e9, hr9⟩ := (own_of_kd HV.out HRd.out.wf).rd
      simp only [Value.slice.injEq, true_and] at e9
      obtain ⟨rfl, rfl⟩ := e9
      exact hr9
     have HRR := Lib.hid hrd2
     clear hrd2
     have hln : ((p.take a2.toNat).drop a1.toNat).length = a2.toNat - a1.toNat := by rw [List.length_drop, List.length_take]; omega
     have HLN := Lib.hid hln
     clear hln
     go_wp2_with (refine wpl_slice3 (t := 23) 3 8 .i64 Ap p.length cp p .i64 .i64 .i64 a1 a2 Try.underlying23 info3 rfl HRR.out rfl rfl rfl h10 h30 h20 ?_; intro A3 hr3; replace hr3 := Lib.hid hr3)
     rw [← HLN.out]
     refine (extent_Of.calls k A3 _ _ r1 r2 w2 (kd_of_rd hr3.out) (by rw [HLN.out]; exact Nat.le_refl _) HQ.out).mono ?_
     rintro e w3 ⟨v3, rfl, hv3, hb3⟩
     go_wp2_with fail
     go_ret2
     exact ⟨_, rfl, Kd.R_lower (Kd.R_mono hv3 fun _ _ => trivial) hB.size, below_then hB hB.size hb3⟩
 ·rw [if_neg h0] at h
  obtain ⟨rfl, rfl⟩ : [] = r1 ∧ e = r2 := by simpa using h
  have hd : (e != 0) = true := by simpa using h0
  have hd2 : (e == 0) = false := by simpa using h0
  clear h h0
  go_enter Try.func58, Try.ntmps58
  go_wp2_with fail
  refine (HC.out).mono ?_
  rintro e w1 ⟨rfl, hb1⟩
  go_wp2_with fail
  go_ret2
  exact ⟨_, rfl, Kd.R_nil _ _ _ _ _, hb1⟩


end Go.Proofs.Ytneliajeokajbaa.PExt
