-- Written by a program of this session (wip/tools/pp.sh, on the pattern of the kit's print): not typed by hand.
import Derived.Test.YthkofhidhghmmaaPIndRx0
import Derived.Test.YthkofhidhghmmaaPIndRx2
namespace Go.Proofs.Ythkofhidhghmmaa.PIndR
set_option maxRecDepth 100000
open Go.RowKit Go.Proofs.YthkofhidhghmmaaW.PrintWords Go.Proofs.YthkofhidhghmmaaW.PrintLast Go.Proofs.YthkofhidhghmmaaW.PrintMore
attribute [local go_sem] max2_int min2_int max_two min_two max_three min_three max_four min_four   -- for this text's walks alone
set_option linter.unusedVariables false
set_option linter.unusedSimpArgs false

/-! ### suffix_Check: function 33 (by hand) -/
def suffix_Check.f (k : Nat) (l0 : List Int) : Option (Int) := if 65536 < l0.length then some 2 else if inKs .i64 l0 = true then (if l0.any badCode = true then some 10 else (slices_Index_int_int.f k l0 0).bind fun i => if i = (l0.length : Int) - 1 then (if l0.length = 0 then some 3 else some 0) else some 3) else none
theorem suffix_Check.mono : ∀ a0 k, LeO (suffix_Check.f k a0) (suffix_Check.f (k + 1) a0) := by
 intro a0 k r h
 unfold suffix_Check.f at h ⊢
 by_cases h1 : 65536 < a0.length
 ·rw [if_pos h1] at h ⊢; exact h
 ·rw [if_neg h1] at h ⊢
  by_cases h2 : inKs .i64 a0 = true
  ·rw [if_pos h2] at h ⊢
   by_cases h3 : a0.any badCode = true
   ·rw [if_pos h3] at h ⊢; exact h
   ·rw [if_neg h3] at h ⊢
    obtain ⟨i, hi, h⟩ := Option.bind_eq_some_iff.1 h
    rw [slices_Index_int_int.mono _ _ _ _ hi, Option.bind_some]
    exact h
  ·rw [if_neg h2] at h; cases h
set_option maxHeartbeats 2000000 in
set_option maxRecDepth 100000 in
theorem suffix_Check.calls (k : Nat) (A0 : Option Addr) (c0 : Nat) (l0 : List Int) (r : Int) (w : World) (hr0 : Kd.C (Kd.int .i64) w A0 l0.length l0) (hc0 : l0.length ≤ c0) (h : suffix_Check.f k l0 = some r) :
  Calls Try.prog 33 #[.slice A0 l0.length c0] w fun e w' => e = .returned (.int .i64 r) ∧ Drawn0 w w' := by
 unfold suffix_Check.f at h
 have hlen : l0.length ≤ 9223372036854775807 := hr0.2.1
 by_cases h1 : 65536 < l0.length
 ·rw [if_pos h1] at h
  obtain rfl := Option.some.inj h
  clear h
  go_enter Try.func33, Try.ntmps33
  go_wp2_with fail
  go_ret
  exact ⟨rfl, Drawn0.refl _⟩
 ·rw [if_neg h1] at h
  have hd1 : decide (65536 < l0.length) = false := decide_eq_false h1
  have hd2 : decide ((65536 : Int) < (l0.length : Int)) = false := decide_eq_false (by omega)
  have hl16 : l0.length ≤ 65536 := by omega
  clear h1
  obtain ⟨hin, h⟩ : inKs .i64 l0 = true ∧ (if l0.any badCode = true then some 10 else (slices_Index_int_int.f k l0 0).bind fun i => if i = (l0.length : Int) - 1 then (if l0.length = 0 then some 3 else some 0) else some 3) = some r := by
   cases hi : inKs .i64 l0 with
   | true => rw [hi, if_pos rfl] at h; exact ⟨rfl, h⟩
   | false => rw [hi, if_neg (by decide)] at h; cases h
  have HCB := Lib.hid (containsBad A0 l0.length c0 l0 w (rd_of_kd hr0 (inKs_of hin)))
  cases hany : l0.any badCode with
  | true =>
   rw [hany, if_pos rfl] at h
   rw [hany] at HCB
   obtain rfl := Option.some.inj h
   clear h hin hany
   go_enter Try.func33, Try.ntmps33
   go_wp2_with fail
   refine (HCB.out).mono ?_
   rintro e w' ⟨rfl, rfl⟩
   go_wp2_with fail
   go_ret
   exact ⟨rfl, Drawn0.refl _⟩
  | false =>
   rw [hany, if_neg (by decide)] at h
   rw [hany] at HCB
   obtain ⟨i, hi, h⟩ := Option.bind_eq_some_iff.1 h
   have HIX := Lib.hid (slices_Index_int_int.calls k A0 c0 l0 0 i w hr0 hc0 hi)
   clear hin hany hi
   by_cases h2 : i = (l0.length : Int) - 1
   ·rw [if_pos h2] at h
    have hb2 : (i != (l0.length : Int) - 1) = false := by simpa using h2
    have hb3 : (i == (l0.length : Int) - 1) = true := by simpa using h2
    by_cases h0 : l0.length = 0
    ·have he : l0 = [] := List.eq_nil_of_length_eq_zero h0
     subst he
     rw [if_pos h0] at h
     obtain rfl := Option.some.inj h
     subst h2
     clear h
     go_enter Try.func33, Try.ntmps33
     go_wp2_with fail
     refine (HCB.out).mono ?_
     rintro e w' ⟨rfl, rfl⟩
     go_wp2_with fail
     refine (HIX.out).mono ?_
     rintro e w' ⟨rfl, hdr⟩
     go_wp2_with fail
     go_ret
     exact ⟨rfl, hdr⟩
    ·rw [if_neg h0] at h
     obtain rfl := Option.some.inj h
     have hb4 : ((l0.length : Int) == 0) = false := by simpa using (show (l0.length : Int) ≠ 0 by omega)
     have hb5 : ¬ l0 = [] := fun e => h0 (by rw [e]; rfl)
     clear h h2
     go_enter Try.func33, Try.ntmps33
     go_wp2_with fail
     refine (HCB.out).mono ?_
     rintro e w' ⟨rfl, rfl⟩
     go_wp2_with fail
     refine (HIX.out).mono ?_
     rintro e w' ⟨rfl, hdr⟩
     go_wp2_with fail
     go_ret
     exact ⟨rfl, hdr⟩
   ·rw [if_neg h2] at h
    obtain rfl := Option.some.inj h
    have hb2 : (i != (l0.length : Int) - 1) = true := by simpa using h2
    have hb3 : (i == (l0.length : Int) - 1) = false := by simpa using h2
    clear h h2
    go_enter Try.func33, Try.ntmps33
    go_wp2_with fail
    refine (HCB.out).mono ?_
    rintro e w' ⟨rfl, rfl⟩
    go_wp2_with fail
    refine (HIX.out).mono ?_
    rintro e w' ⟨rfl, hdr⟩
    go_wp2_with fail
    go_ret
    exact ⟨rfl, hdr⟩


/-! ### induce_Heads: function 34 (by hand) -/
def induce_Heads.f (k : Nat) (l0 : List Int) : Option (List Int × Int) := (suffix_Check.f k l0).bind fun e => if e = 0 then (if CodesP l0 then some (headsL l0, 0) else none) else some ([], e)
theorem induce_Heads.mono : ∀ a0 k, LeO (induce_Heads.f k a0) (induce_Heads.f (k + 1) a0) := by
 intro a0 k r h
 unfold induce_Heads.f at h ⊢
 obtain ⟨e, he, h⟩ := Option.bind_eq_some_iff.1 h
 rw [suffix_Check.mono _ _ _ he, Option.bind_some]
 exact h
theorem induce_Heads.calls (k : Nat) (A0 : Option Addr) (c0 : Nat) (l0 : List Int) (r1 : List Int) (r2 : Int) (w : World) (hr0 : Kd.C (Kd.int .i64) w A0 l0.length l0) (hc0 : l0.length ≤ c0) (h : induce_Heads.f k l0 = some (r1, r2)) :
  Calls Try.prog 34 #[.slice A0 l0.length c0] w fun e w' => ∃ v0_ : Value, e = .returned (.tuple #[v0_, .int .i64 r2]) ∧ Kd.R (Kd.int .i64) 3 w' w.heap.size (fun _ => True) v0_ r1 ∧ Below w.heap.size w w' := by
 unfold induce_Heads.f at h
 obtain ⟨e, he, h⟩ := Option.bind_eq_some_iff.1 h
 have hck : Hid (Calls Try.prog 33 #[.slice A0 l0.length c0] w fun en w' => en = .returned (.int .i64 e) ∧ ∃ q, w' = w.drewN q) := Lib.hid ((suffix_Check.calls k A0 c0 l0 e w hr0 hc0 he).mono fun _ _ h => ⟨h.1, h.2.out⟩)
 have fin : ∀ {r1 : List Int} {r2 : Int}, Calls Try.prog 34 #[.slice A0 l0.length c0] w (Ret2 w r1 r2) → Calls Try.prog 34 #[.slice A0 l0.length c0] w fun e w' => ∃ v0_ : Value, e = .returned (.tuple #[v0_, .int .i64 r2]) ∧ Kd.R (Kd.int .i64) 3 w' w.heap.size (fun _ => True) v0_ r1 ∧ Below w.heap.size w w' :=
  fun h => h.mono fun _ _ hp => by
   obtain ⟨v, he, hv, hu⟩ := hp.out
   exact ⟨v, he, kd_of_own hv fun _ _ => trivial, hu.out⟩
 by_cases h0 : e = 0
 ·subst h0
  rw [if_pos rfl] at h
  by_cases h2 : CodesP l0
  ·rw [if_pos h2] at h
   cases h
   exact fin (indHeads_ok A0 c0 l0 w (rd_of_kdc hr0 hc0 h2.codes.wf) h2.codes hck)
  ·rw [if_neg h2] at h; cases h
 ·rw [if_neg h0] at h
  cases h
  exact fin (indHeads_bad A0 c0 l0 w _ h0 hck)


/-! ### induce_Tails: function 35 (by hand) -/
def induce_Tails.f (k : Nat) (l0 : List Int) : Option (List Int × Int) := (suffix_Check.f k l0).bind fun e => if e = 0 then (if CodesP l0 then some (tailsL l0, 0) else none) else some ([], e)
theorem induce_Tails.mono : ∀ a0 k, LeO (induce_Tails.f k a0) (induce_Tails.f (k + 1) a0) := by
 intro a0 k r h
 unfold induce_Tails.f at h ⊢
 obtain ⟨e, he, h⟩ := Option.bind_eq_some_iff.1 h
 rw [suffix_Check.mono _ _ _ he, Option.bind_some]
 exact h
theorem induce_Tails.calls (k : Nat) (A0 : Option Addr) (c0 : Nat) (l0 : List Int) (r1 : List Int) (r2 : Int) (w : World) (hr0 : Kd.C (Kd.int .i64) w A0 l0.length l0) (hc0 : l0.length ≤ c0) (h : induce_Tails.f k l0 = some (r1, r2)) :
  Calls Try.prog 35 #[.slice A0 l0.length c0] w fun e w' => ∃ v0_ : Value, e = .returned (.tuple #[v0_, .int .i64 r2]) ∧ Kd.R (Kd.int .i64) 3 w' w.heap.size (fun _ => True) v0_ r1 ∧ Below w.heap.size w w' := by
 unfold induce_Tails.f at h
 obtain ⟨e, he, h⟩ := Option.bind_eq_some_iff.1 h
 have hck : Hid (Calls Try.prog 33 #[.slice A0 l0.length c0] w fun en w' => en = .returned (.int .i64 e) ∧ ∃ q, w' = w.drewN q) := Lib.hid ((suffix_Check.calls k A0 c0 l0 e w hr0 hc0 he).mono fun _ _ h => ⟨h.1, h.2.out⟩)
 have fin : ∀ {r1 : List Int} {r2 : Int}, Calls Try.prog 35 #[.slice A0 l0.length c0] w (Ret2 w r1 r2) → Calls Try.prog 35 #[.slice A0 l0.length c0] w fun e w' => ∃ v0_ : Value, e = .returned (.tuple #[v0_, .int .i64 r2]) ∧ Kd.R (Kd.int .i64) 3 w' w.heap.size (fun _ => True) v0_ r1 ∧ Below w.heap.size w w' :=
  fun h => h.mono fun _ _ hp => by
   obtain ⟨v, he, hv, hu⟩ := hp.out
   exact ⟨v, he, kd_of_own hv fun _ _ => trivial, hu.out⟩
 by_cases h0 : e = 0
 ·subst h0
  rw [if_pos rfl] at h
  by_cases h2 : CodesP l0
  ·rw [if_pos h2] at h
   cases h
   exact fin (indTails_ok A0 c0 l0 w (rd_of_kdc hr0 hc0 h2.codes.wf) h2.codes hck)
  ·rw [if_neg h2] at h; cases h
 ·rw [if_neg h0] at h
  cases h
  exact fin (indTails_bad A0 c0 l0 w _ h0 hck)


/-! ### suffix_kinds: function 52 (by hand) -/
def suffix_kinds.f (l0 : List Int) : Option (List Bool) := if inKs .i64 l0 = true ∧ l0.length ≤ 65536 then some (kdL l0) else none
theorem suffix_kinds.calls (A0 : Option Addr) (c0 : Nat) (l0 : List Int) (r : List Bool) (w : World) (hr0 : Kd.C (Kd.int .i64) w A0 l0.length l0) (hc0 : l0.length ≤ c0) (h : suffix_kinds.f l0 = some r) :
  Calls Try.prog 52 #[.slice A0 l0.length c0] w fun e w' => ∃ v0_ : Value, e = .returned (v0_) ∧ Kd.R Kd.bool 4 w' w.heap.size (fun _ => True) v0_ r ∧ Below w.heap.size w w' := by
 unfold suffix_kinds.f at h
 by_cases h1 : inKs .i64 l0 = true ∧ l0.length ≤ 65536
 ·rw [if_pos h1] at h
  obtain rfl := Option.some.inj h
  refine (sufkinds_calls A0 c0 l0 w (rd_of_kdc hr0 hc0 (inKs_of h1.1)) h1.2).mono fun e w' ⟨G, he, hG, hb, hu⟩ => ⟨_, he, kdb_of_blk hb hG (kdL_len l0).symm (by rw [kdL_len]; exact h1.2), hu.out⟩
 ·rw [if_neg h1] at h; cases h


/-! ### suffix_Kinds: function 21 -/
def suffix_Kinds.f (k : Nat) (l0 : List Int) : Option (List Bool × Int) := (suffix_Check.f k l0).bind fun t179 => (if t179 = 0 then ((suffix_kinds.f l0).bind fun t180 => (some (t180, 0))) else (some (([] : List Bool), t179)))
theorem suffix_Kinds.mono : ∀ a0 k, LeO (suffix_Kinds.f k a0) (suffix_Kinds.f (k + 1) a0) := by
 intro a0 k
 unfold suffix_Kinds.f
 repeat' first
   | (with_reducible exact suffix_Check.mono _ _)
   | (with_reducible exact LeO.refl _)
   | (with_reducible exact LeO.none _)
   | (with_reducible refine LeO.ite ?_ ?_)
   | (with_reducible refine LeO.bind ?_ (fun _ => ?_))
   | exact suffix_Check.mono _ _
   | exact LeO.none _
   | refine LeO.ite ?_ ?_
   | refine LeO.bind ?_ (fun _ => ?_)
set_option maxHeartbeats 8000000 in
set_option maxRecDepth 100000 in
theorem suffix_Kinds.calls (k : Nat) (A0 : Option Addr) (c0 : Nat) (l0 : List Int) (r1 : List Bool) (r2 : Int) (w : World) (hr0 : Kd.C (Kd.int .i64) w A0 l0.length l0) (hc0 : l0.length ≤ c0) (h : suffix_Kinds.f k l0 = some (r1, r2)) :
  Calls Try.prog 21 #[.slice A0 l0.length c0] w fun e w' => ∃ v0_ : Value, e = .returned (.tuple #[v0_, .int .i64 r2]) ∧ Kd.R Kd.bool 4 w' w.heap.size (fun _ => True) v0_ r1 ∧ Below w.heap.size w w' := by
 have HR0 := Aside0.mk hr0
 have HC0 := Aside0.mk hc0
 clear hr0 hc0
 have HB := Aside0.mk (Below.refl w.heap.size w)
 have H : ((suffix_Check.f k l0).bind fun t179 => (if t179 = 0 then ((suffix_kinds.f l0).bind fun t180 => (some (t180, 0))) else (some (([] : List Bool), t179)))) = some (r1, r2) := h
 clear h
 replace H := Option.bind_eq_some_iff.mp H
 obtain ⟨t179, A20, H⟩ := H
 replace H : (if t179 = 0 then ((suffix_kinds.f l0).bind fun t180 => (some (t180, 0))) else (some (([] : List Bool), t179))) = some (r1, r2) := H
 have A2 := Aside0.mk A20
 clear A20
 by_cases c3 : t179 = 0
 ·rw [if_pos c3] at H
  have c3b0 : (t179 == 0) = true := beq_iff_eq.mpr c3
  have c3b1 : (t179 != 0) = false := bne_eq_false_iff_eq.mpr c3
  clear c3
  replace H := Option.bind_eq_some_iff.mp H
  obtain ⟨t180, A40, H⟩ := H
  replace H : (some (t180, 0)) = some (r1, r2) := H
  have A4 := Aside0.mk A40
  clear A40
  simp only [Option.some.injEq, Prod.mk.injEq] at H
  obtain ⟨rfl, rfl⟩ := H
  go_enter Try.func21, Try.ntmps21
  go_wp2_with (first | ((with_reducible refine gate_callee (f := 33) rfl ?_); refine goesL_ (some 6) rfl rfl Try.func33 (by kernel_rfl) rfl #[.slice A0 l0.length c0] rfl (by (try simp only [List.map_toArray, List.map_cons, List.map_nil]); first | done | rfl | (simp only [List.length_drop, List.length_take]; rfl)) ?_; (with_reducible refine (suffix_Check.calls k _ _ l0 t179 _ ?side1 ?side2 A2.out).mono ?_); (case side1 => repeat (first | exact HR0.out | (with_reducible refine Kd.C_alloc ?_ _) | (with_reducible refine Kd.C_drewN ?_ _) | (with_reducible refine Kd.C_drew ?_))); (case side2 => exact HC0.out); rintro e w' ⟨rfl, ⟨nd, rfl⟩⟩; refine ⟨_, rfl, ?_⟩) | ((with_reducible refine gate_callee (f := 52) rfl ?_); refine goesL_ (some 11) rfl rfl Try.func52 (by kernel_rfl) rfl #[.slice A0 l0.length c0] rfl (by (try simp only [List.map_toArray, List.map_cons, List.map_nil]); first | done | rfl | (simp only [List.length_drop, List.length_take]; rfl)) ?_; (with_reducible refine (suffix_kinds.calls _ _ l0 t180 _ ?side1 ?side2 A4.out).mono ?_); (case side1 => repeat (first | exact HR0.out | (with_reducible refine Kd.C_alloc ?_ _) | (with_reducible refine Kd.C_drewN ?_ _) | (with_reducible refine Kd.C_drew ?_))); (case side2 => exact HC0.out); rintro e w5 ⟨v181, rfl, ho0, hb⟩; refine ⟨_, rfl, ?_⟩; have n0_ := Aside0.mk (Kd.R_lower ho0 (below_size (by repeat (first | (with_reducible first | exact HB.out | apply below_alloc | apply pw_below_drewN | apply below_drew1) | exact HB.out)))); have n1_ := Aside0.mk (below_step (by repeat (first | (with_reducible first | exact HB.out | apply below_alloc | apply pw_below_drewN | apply below_drew1) | exact HB.out)) hb); clear HB; have HO182 := n0_; have HB := n1_; clear n0_ n1_; (try clear hb); (try clear hb2); (try clear hk); (try clear hi); (try clear ho0)))
  go_ret2
  exact ⟨_, by first | rfl | (simp [errW_none, errW_some] <;> rfl) | (simp [*, errW_none, errW_some] <;> rfl), by (with_reducible repeat (first | apply Kd.R_alloc | apply Kd.R_drewN | apply Kd.R_drew)); exact HO182.out, by repeat (first | (with_reducible first | exact HB.out | apply below_alloc | apply pw_below_drewN | apply below_drew1) | exact HB.out)⟩
 ·rw [if_neg c3] at H
  have c3b0 : (t179 == 0) = false := beq_eq_false_iff_ne.mpr c3
  have c3b1 : (t179 != 0) = true := bne_iff_ne.mpr c3
  simp only [Option.some.injEq, Prod.mk.injEq] at H
  obtain ⟨rfl, rfl⟩ := H
  go_enter Try.func21, Try.ntmps21
  go_wp2_with (first | ((with_reducible refine gate_callee (f := 33) rfl ?_); refine goesL_ (some 6) rfl rfl Try.func33 (by kernel_rfl) rfl #[.slice A0 l0.length c0] rfl (by (try simp only [List.map_toArray, List.map_cons, List.map_nil]); first | done | rfl | (simp only [List.length_drop, List.length_take]; rfl)) ?_; (with_reducible refine (suffix_Check.calls k _ _ l0 t179 _ ?side1 ?side2 A2.out).mono ?_); (case side1 => repeat (first | exact HR0.out | (with_reducible refine Kd.C_alloc ?_ _) | (with_reducible refine Kd.C_drewN ?_ _) | (with_reducible refine Kd.C_drew ?_))); (case side2 => exact HC0.out); rintro e w' ⟨rfl, ⟨nd, rfl⟩⟩; refine ⟨_, rfl, ?_⟩))
  go_ret2
  exact ⟨_, by first | rfl | (simp [errW_none, errW_some] <;> rfl) | (simp [*, errW_none, errW_some] <;> rfl), by first | exact Kd.R_nil _ _ _ _ _ | exact Kd.N_nil _ _ _ _ _ | exact Kd.V_nil _ _ _ _ _ | exact Kd.Q_nil _ _ _ _ _ | exact Kd.S_nil _ _ _ _ _, by repeat (first | (with_reducible first | exact HB.out | apply below_alloc | apply pw_below_drewN | apply below_drew1) | exact HB.out)⟩

/-! ### suffix_Firsts: function 23 -/
def suffix_Firsts.l0 : Nat → List Bool → List Int → Int → Int → Option (List Int × Int)
 | 0, _, _, _, _ => none
 | k + 1, x4, x6, x17, x18 => if x18 < x17 then (if x18 = 0 then (suffix_Firsts.l0 k x4 x6 x17 (wrap64 (x18 + 1))) else (if 0 ≤ x18 then (if x18 < (x4.length : Int) then (if rdOf false x4 x18 = true then (if 0 ≤ (wrap64 (x18 - 1)) then (if (wrap64 (x18 - 1)) < (x4.length : Int) then (if rdOf false x4 (wrap64 (x18 - 1)) = true then (suffix_Firsts.l0 k x4 x6 x17 (wrap64 (x18 + 1))) else (if x6.length < 17592186044416 then (suffix_Firsts.l0 k x4 (x6 ++ [x18]) x17 (wrap64 (x18 + 1))) else (none))) else (none)) else (none)) else (suffix_Firsts.l0 k x4 x6 x17 (wrap64 (x18 + 1)))) else (none)) else (none))) else (some (x6, 0))
def suffix_Firsts.f (k : Nat) (l0 : List Int) : Option (List Int × Int) := (suffix_Kinds.f k l0).bind fun bt183 => (if bt183.2 = 0 then (suffix_Firsts.l0 k bt183.1 ([] : List Int) (bt183.1.length : Int) 0) else (some (([] : List Int), bt183.2)))
theorem suffix_Firsts.mono_l : ∀ k, (∀ y0 y1 y2 y3, LeO (suffix_Firsts.l0 k y0 y1 y2 y3) (suffix_Firsts.l0 (k + 1) y0 y1 y2 y3))
 | 0 => fun _ _ _ _ r h => by simp [suffix_Firsts.l0] at h
 | k + 1 => by
  have ih0 := suffix_Firsts.mono_l k
  ·intro y0 y1 y2 y3
   unfold suffix_Firsts.l0
   repeat' first
   | (with_reducible exact ih0 _ _ _ _)
   | (with_reducible exact suffix_Kinds.mono _ _)
   | (with_reducible exact LeO.refl _)
   | (with_reducible exact LeO.none _)
   | (with_reducible refine LeO.ite ?_ ?_)
   | (with_reducible refine LeO.bind ?_ (fun _ => ?_))
   | exact ih0 _ _ _ _
   | exact suffix_Kinds.mono _ _
   | exact LeO.none _
   | refine LeO.ite ?_ ?_
   | refine LeO.bind ?_ (fun _ => ?_)
theorem suffix_Firsts.mono : ∀ a0 k, LeO (suffix_Firsts.f k a0) (suffix_Firsts.f (k + 1) a0) := by
 intro a0 k
 have ih0 := suffix_Firsts.mono_l k
 unfold suffix_Firsts.f
 repeat' first
   | (with_reducible exact ih0 _ _ _ _)
   | (with_reducible exact suffix_Kinds.mono _ _)
   | (with_reducible exact LeO.refl _)
   | (with_reducible exact LeO.none _)
   | (with_reducible refine LeO.ite ?_ ?_)
   | (with_reducible refine LeO.bind ?_ (fun _ => ?_))
   | exact ih0 _ _ _ _
   | exact suffix_Kinds.mono _ _
   | exact LeO.none _
   | refine LeO.ite ?_ ?_
   | refine LeO.bind ?_ (fun _ => ?_)
set_option maxHeartbeats 8000000 in
set_option maxRecDepth 100000 in
theorem suffix_Firsts.calls (k : Nat) (A0 : Option Addr) (c0 : Nat) (l0 : List Int) (r1 : List Int) (r2 : Int) (w : World) (hr0 : Kd.C (Kd.int .i64) w A0 l0.length l0) (hc0 : l0.length ≤ c0) (h : suffix_Firsts.f k l0 = some (r1, r2)) :
  Calls Try.prog 23 #[.slice A0 l0.length c0] w fun e w' => ∃ v0_ : Value, e = .returned (.tuple #[v0_, .int .i64 r2]) ∧ Kd.R (Kd.int .i64) 3 w' w.heap.size (fun _ => True) v0_ r1 ∧ Below w.heap.size w w' := by
 have HR0 := Aside0.mk hr0
 have HC0 := Aside0.mk hc0
 clear hr0 hc0
 have HB := Aside0.mk (Below.refl w.heap.size w)
 have H : ((suffix_Kinds.f k l0).bind fun bt183 => (if bt183.2 = 0 then (suffix_Firsts.l0 k bt183.1 ([] : List Int) (bt183.1.length : Int) 0) else (some (([] : List Int), bt183.2)))) = some (r1, r2) := h
 clear h
 replace H := Option.bind_eq_some_iff.mp H
 obtain ⟨⟨t183, t184⟩, A20, H⟩ := H
 replace H : (if t184 = 0 then (suffix_Firsts.l0 k t183 ([] : List Int) (t183.length : Int) 0) else (some (([] : List Int), t184))) = some (r1, r2) := H
 have A2 := Aside0.mk A20
 clear A20
 by_cases c3 : t184 = 0
 ·rw [if_pos c3] at H
  have c3b0 : (t184 == 0) = true := beq_iff_eq.mpr c3
  have c3b1 : (t184 != 0) = false := bne_eq_false_iff_eq.mpr c3
  clear c3
  have H' := Aside0.mk H
  clear H
  go_enter Try.func23, Try.ntmps23
  try go_wp2_with (first | ((with_reducible refine gate_callee (f := 21) rfl ?_); refine goesL_ (some 10) rfl rfl Try.func21 (by kernel_rfl) rfl #[.slice A0 l0.length c0] rfl (by (try simp only [List.map_toArray, List.map_cons, List.map_nil]); first | done | rfl | (simp only [List.length_drop, List.length_take]; rfl)) ?_; (with_reducible refine (suffix_Kinds.calls k _ _ l0 t183 t184 _ ?side1 ?side2 A2.out).mono ?_); (case side1 => repeat (first | exact HR0.out | (with_reducible refine Kd.C_alloc ?_ _) | (with_reducible refine Kd.C_drewN ?_ _) | (with_reducible refine Kd.C_drew ?_))); (case side2 => exact HC0.out); rintro e w4 ⟨v185, rfl, ho0, hb⟩; refine ⟨_, rfl, ?_⟩; have n0_ := Aside0.mk (Kd.R_lower ho0 (below_size (by repeat (first | (with_reducible first | exact HB.out | apply below_alloc | apply pw_below_drewN | apply below_drew1) | exact HB.out)))); have n1_ := Aside0.mk (below_step (by repeat (first | (with_reducible first | exact HB.out | apply below_alloc | apply pw_below_drewN | apply below_drew1) | exact HB.out)) hb); clear HB; have HO186 := n0_; have HB := n1_; clear n0_ n1_; (try clear hb); (try clear hb2); (try clear hk); (try clear hi); (try clear ho0); obtain ⟨Ao5, co5, eo5⟩ := Kd.R_slice HO186.out; subst eo5))
  repeat ((go_step3); try go_wp2_with (first | ((with_reducible refine gate_callee (f := 21) rfl ?_); refine goesL_ (some 10) rfl rfl Try.func21 (by kernel_rfl) rfl #[.slice A0 l0.length c0] rfl (by (try simp only [List.map_toArray, List.map_cons, List.map_nil]); first | done | rfl | (simp only [List.length_drop, List.length_take]; rfl)) ?_; (with_reducible refine (suffix_Kinds.calls k _ _ l0 t183 t184 _ ?side1 ?side2 A2.out).mono ?_); (case side1 => repeat (first | exact HR0.out | (with_reducible refine Kd.C_alloc ?_ _) | (with_reducible refine Kd.C_drewN ?_ _) | (with_reducible refine Kd.C_drew ?_))); (case side2 => exact HC0.out); rintro e w4 ⟨v185, rfl, ho0, hb⟩; refine ⟨_, rfl, ?_⟩; have n0_ := Aside0.mk (Kd.R_lower ho0 (below_size (by repeat (first | (with_reducible first | exact HB.out | apply below_alloc | apply pw_below_drewN | apply below_drew1) | exact HB.out)))); have n1_ := Aside0.mk (below_step (by repeat (first | (with_reducible first | exact HB.out | apply below_alloc | apply pw_below_drewN | apply below_drew1) | exact HB.out)) hb); clear HB; have HO186 := n0_; have HB := n1_; clear n0_ n1_; (try clear hb); (try clear hb2); (try clear hk); (try clear hi); (try clear ho0); obtain ⟨Ao5, co5, eo5⟩ := Kd.R_slice HO186.out; subst eo5)))
  go_loopg [6, 18] k (fun kq v6 v18 w' => ∃ (x6_1 : List Int) (x18_1 : Int), v18 = .int .i64 x18_1 ∧ Aside0 (suffix_Firsts.l0 kq t183 x6_1 (t183.length : Int) x18_1 = some (r1, r2)) ∧ Aside0 (kq ≤ k) ∧ Aside0 (Kd.R Kd.bool 4 w' w.heap.size (fun _ => True) (.slice Ao5 t183.length co5) t183) ∧ Aside0 (Kd.R (Kd.int .i64) 3 w' w.heap.size (fun _ => True) v6 x6_1) ∧ Aside0 (Below w.heap.size w w'))
  case atStart => exact ⟨(([] : List Int)), (0), (by first | rfl | (simp; done) | (simp [*]; done)), H', ⟨Nat.le_refl _⟩, ⟨by (with_reducible repeat (first | apply Kd.R_alloc | apply Kd.R_drewN | apply Kd.R_drew)); exact HO186.out⟩, ⟨by first | exact Kd.R_nil _ _ _ _ _ | exact Kd.N_nil _ _ _ _ _ | exact Kd.V_nil _ _ _ _ _ | exact Kd.Q_nil _ _ _ _ _ | exact Kd.S_nil _ _ _ _ _⟩, ⟨by repeat (first | (with_reducible first | exact HB.out | apply below_alloc | apply pw_below_drewN | apply below_drew1) | exact HB.out)⟩⟩
  case round =>
   clear H'
   try clear c2
   try clear p2
   try clear c3
   try clear c3b0
   try clear c3b1
   try clear p3
   obtain ⟨x6_1, x18_1, rfl, HA, HK1, HO_4, HO_6, HB⟩ := hrel
   cases gk with
   | zero => exact absurd HA.out (by simp [suffix_Firsts.l0])
   | succ k1 =>
    have H := HA.out
    clear HA
    simp only [suffix_Firsts.l0] at H
    by_cases c6 : x18_1 < (t183.length : Int)
    ·rw [if_pos c6] at H
     have c6b0 : decide (x18_1 < (t183.length : Int)) = true := decide_eq_true c6
     clear c6
     by_cases c7 : x18_1 = 0
     ·rw [if_pos c7] at H
      have c7b0 : (x18_1 == 0) = true := beq_iff_eq.mpr c7
      have c7b1 : (x18_1 != 0) = false := bne_eq_false_iff_eq.mpr c7
      clear c7
      have H' := Aside0.mk H
      clear H
      try go_wp2_with (fail)
      repeat ((go_step3); try go_wp2_with (fail))
      go_roundg k1
      case measure => have := HK1.out; omega
      case rel => exact ⟨(x6_1), (wrap64 (x18_1 + 1)), (by first | rfl | (simp; done) | (simp [*]; done)), H', ⟨by have := HK1.out; omega⟩, ⟨by (with_reducible repeat (first | apply Kd.R_alloc | apply Kd.R_drewN | apply Kd.R_drew)); exact HO_4.out⟩, ⟨by (with_reducible repeat (first | apply Kd.R_alloc | apply Kd.R_drewN | apply Kd.R_drew)); exact HO_6.out⟩, ⟨by repeat (first | (with_reducible first | exact HB.out | apply below_alloc | apply pw_below_drewN | apply below_drew1) | exact HB.out)⟩⟩
     ·rw [if_neg c7] at H
      have c7b0 : (x18_1 == 0) = false := beq_eq_false_iff_ne.mpr c7
      have c7b1 : (x18_1 != 0) = true := bne_iff_ne.mpr c7
      by_cases c8 : 0 ≤ x18_1
      ·rw [if_pos c8] at H
       have c8b0 : decide (0 ≤ x18_1) = true := decide_eq_true c8
       clear c8
       by_cases c9 : x18_1 < (t183.length : Int)
       ·rw [if_pos c9] at H
        have c9b0 : decide (x18_1 < (t183.length : Int)) = true := decide_eq_true c9
        clear c9
        obtain ⟨bq10, hbq10⟩ : ∃ b_ : Bool, b_ = (rdOf false t183 x18_1) := ⟨_, rfl⟩
        replace H : (if bq10 = true then (if 0 ≤ (wrap64 (x18_1 - 1)) then (if (wrap64 (x18_1 - 1)) < (t183.length : Int) then (if rdOf false t183 (wrap64 (x18_1 - 1)) = true then (suffix_Firsts.l0 k1 t183 x6_1 (t183.length : Int) (wrap64 (x18_1 + 1))) else (if x6_1.length < 17592186044416 then (suffix_Firsts.l0 k1 t183 (x6_1 ++ [x18_1]) (t183.length : Int) (wrap64 (x18_1 + 1))) else (none))) else (none)) else (none)) else (suffix_Firsts.l0 k1 t183 x6_1 (t183.length : Int) (wrap64 (x18_1 + 1)))) = some (r1, r2) := by rw [← hbq10] at H; exact H
        have Nbq10 := Aside0.mk hbq10
        clear hbq10
        by_cases c11 : bq10 = true
        ·subst c11
         have H1 : (if 0 ≤ (wrap64 (x18_1 - 1)) then (if (wrap64 (x18_1 - 1)) < (t183.length : Int) then (if rdOf false t183 (wrap64 (x18_1 - 1)) = true then (suffix_Firsts.l0 k1 t183 x6_1 (t183.length : Int) (wrap64 (x18_1 + 1))) else (if x6_1.length < 17592186044416 then (suffix_Firsts.l0 k1 t183 (x6_1 ++ [x18_1]) (t183.length : Int) (wrap64 (x18_1 + 1))) else (none))) else (none)) else (none)) = some (r1, r2) := by rw [if_pos rfl] at H; exact H
         clear H
         have H := H1
         clear H1
         obtain ⟨ji12, hji12⟩ : ∃ j_ : Int, (wrap64 (x18_1 - 1)) = j_ := ⟨_, rfl⟩
         replace H : (if 0 ≤ (ji12) then (if (ji12) < (t183.length : Int) then (if rdOf false t183 (ji12) = true then (suffix_Firsts.l0 k1 t183 x6_1 (t183.length : Int) (wrap64 (x18_1 + 1))) else (if x6_1.length < 17592186044416 then (suffix_Firsts.l0 k1 t183 (x6_1 ++ [x18_1]) (t183.length : Int) (wrap64 (x18_1 + 1))) else (none))) else (none)) else (none)) = some (r1, r2) := by first | (rw [hji12] at H; exact H) | (simp only [hji12] at H ⊢; exact H)
         have hji12w : (IntKind.i64.wrap (x18_1 - 1)) = ji12 := (i64_w _).trans hji12
         by_cases c13 : 0 ≤ (ji12)
         ·rw [if_pos c13] at H
          have c13b0 : decide (0 ≤ (ji12)) = true := decide_eq_true c13
          clear c13
          by_cases c14 : (ji12) < (t183.length : Int)
          ·rw [if_pos c14] at H
           have c14b0 : decide ((ji12) < (t183.length : Int)) = true := decide_eq_true c14
           clear c14
           obtain ⟨bq15, hbq15⟩ : ∃ b_ : Bool, b_ = (rdOf false t183 (ji12)) := ⟨_, rfl⟩
           replace H : (if bq15 = true then (suffix_Firsts.l0 k1 t183 x6_1 (t183.length : Int) (wrap64 (x18_1 + 1))) else (if x6_1.length < 17592186044416 then (suffix_Firsts.l0 k1 t183 (x6_1 ++ [x18_1]) (t183.length : Int) (wrap64 (x18_1 + 1))) else (none))) = some (r1, r2) := by rw [← hbq15] at H; exact H
           have Nbq15 := Aside0.mk hbq15
           clear hbq15
           by_cases c16 : bq15 = true
           ·subst c16
            have H1 : (suffix_Firsts.l0 k1 t183 x6_1 (t183.length : Int) (wrap64 (x18_1 + 1))) = some (r1, r2) := by rw [if_pos rfl] at H; exact H
            clear H
            have H := H1
            clear H1
            have H' := Aside0.mk H
            clear H
            have p187 : 0 ≤ (x18_1 : Int) := of_decide_eq_true (by first | (with_reducible assumption) | assumption)
            have q187 : x18_1 < (t183.length : Int) := of_decide_eq_true (by first | (with_reducible assumption) | assumption)
            obtain ⟨ad187, e187, hx187_0⟩ := Kd.at_bool (Kd.R_reads' HO_4.out).2.2 x18_1 p187 q187
            (try rw [← Nbq10.out] at hx187_0)
            (try rw [← Nbq15.out] at hx187_0)
            cases e187
            replace p187 := eq_true p187
            replace q187 := eq_true q187
            have p188 : 0 ≤ ((ji12) : Int) := of_decide_eq_true (by first | (with_reducible assumption) | assumption)
            have q188 : (ji12) < (t183.length : Int) := of_decide_eq_true (by first | (with_reducible assumption) | assumption)
            obtain ⟨ad188, e188, hx188_0⟩ := Kd.at_bool (Kd.R_reads' HO_4.out).2.2 (ji12) p188 q188
            (try rw [← Nbq10.out] at hx188_0)
            (try rw [← Nbq15.out] at hx188_0)
            obtain rfl : ad187 = ad188 := (by injection e188)
            replace p188 := eq_true p188
            replace q188 := eq_true q188
            try go_wp2_with (fail)
            repeat ((go_step3); try go_wp2_with (fail))
            go_roundg k1
            case measure => have := HK1.out; omega
            case rel => exact ⟨(x6_1), (wrap64 (x18_1 + 1)), (by first | rfl | (simp; done) | (simp [*]; done)), H', ⟨by have := HK1.out; omega⟩, ⟨by (with_reducible repeat (first | apply Kd.R_alloc | apply Kd.R_drewN | apply Kd.R_drew)); exact HO_4.out⟩, ⟨by (with_reducible repeat (first | apply Kd.R_alloc | apply Kd.R_drewN | apply Kd.R_drew)); exact HO_6.out⟩, ⟨by repeat (first | (with_reducible first | exact HB.out | apply below_alloc | apply pw_below_drewN | apply below_drew1) | exact HB.out)⟩⟩
           ·replace c16 := Bool.eq_false_iff.mpr c16
            subst c16
            have H1 : (if x6_1.length < 17592186044416 then (suffix_Firsts.l0 k1 t183 (x6_1 ++ [x18_1]) (t183.length : Int) (wrap64 (x18_1 + 1))) else (none)) = some (r1, r2) := by rw [if_neg (show ¬ (false = true) by decide)] at H; exact H
            clear H
            have H := H1
            clear H1
            by_cases c17 : x6_1.length < 17592186044416
            ·rw [if_pos c17] at H
             have LMc17 := Aside0.mk c17
             clear c17
             obtain ⟨y189, hy189⟩ : ∃ y_ : List Int, y_ = (x6_1 ++ [x18_1]) := ⟨_, rfl⟩
             replace H : (suffix_Firsts.l0 k1 t183 y189 (t183.length : Int) (wrap64 (x18_1 + 1))) = some (r1, r2) := by first | (rw [hy189]; with_reducible exact H) | (have H2_ := (Option.bind_some _ _).symm.trans H; rw [hy189]; with_reducible exact H2_) | (have H2_ := (Option.bind_some _ _).symm.trans H; with_reducible exact H2_) | with_reducible exact H | (rw [hy189]; exact H) | exact H
             have Ny189 := Aside0.mk hy189
             clear hy189
             have H' := Aside0.mk H
             clear H
             have p187 : 0 ≤ (x18_1 : Int) := of_decide_eq_true (by first | (with_reducible assumption) | assumption)
             have q187 : x18_1 < (t183.length : Int) := of_decide_eq_true (by first | (with_reducible assumption) | assumption)
             obtain ⟨ad187, e187, hx187_0⟩ := Kd.at_bool (Kd.R_reads' HO_4.out).2.2 x18_1 p187 q187
             (try rw [← Nbq10.out] at hx187_0)
             (try rw [← Nbq15.out] at hx187_0)
             cases e187
             replace p187 := eq_true p187
             replace q187 := eq_true q187
             have p188 : 0 ≤ ((ji12) : Int) := of_decide_eq_true (by first | (with_reducible assumption) | assumption)
             have q188 : (ji12) < (t183.length : Int) := of_decide_eq_true (by first | (with_reducible assumption) | assumption)
             obtain ⟨ad188, e188, hx188_0⟩ := Kd.at_bool (Kd.R_reads' HO_4.out).2.2 (ji12) p188 q188
             (try rw [← Nbq10.out] at hx188_0)
             (try rw [← Nbq15.out] at hx188_0)
             obtain rfl : ad187 = ad188 := (by injection e188)
             replace p188 := eq_true p188
             replace q188 := eq_true q188
             try go_wp2_with (first | ((with_reducible refine gate_builtin (b := .append) (xs := #[.tmp 37, .tmp 39]) rfl ?_); at_builtin; refine Kd.R_append (Kd.int .i64) (w0 := w) w.heap.size rfl (.tmp 37) (.tmp 39) 22 3 (.int .i64 0) 8 rfl Try.underlying22 info3 rfl (by decide) (by omega) u6 x6_1 x18_1 [.int .i64 x18_1] (fun _ => True) (fun _ => False) rfl rfl ?aP (fun _ hk => hk.elim) ?aF ?aO ?aB ?aS ?aL ?_; (case aP => exact rfl); (case aB => exact (by repeat (first | (with_reducible first | exact HB.out | apply below_alloc | apply pw_below_drewN | apply below_drew1) | exact HB.out))); (case aF => exact (fun _ _ => trivial)); (case aO => exact (by (with_reducible repeat (first | apply Kd.R_alloc | apply Kd.R_drewN | apply Kd.R_drew)); exact HO_6.out)); (case aS => exact (below_size (by repeat (first | (with_reducible first | exact HB.out | apply below_alloc | apply pw_below_drewN | apply below_drew1) | exact HB.out)))); (case aL => have := LMc17.out; omega); intro v190 w18 ho hb hg hat; rw [← Ny189.out] at ho; have n0_ := Aside0.mk (Kd.R_over' (by (with_reducible repeat (first | apply Kd.R_alloc | apply Kd.R_drewN | apply Kd.R_drew)); exact HO_4.out) (Kd.R_typed (by (with_reducible repeat (first | apply Kd.R_alloc | apply Kd.R_drewN | apply Kd.R_drew)); exact HO_6.out)) (by decide) hg); have n1_ := Aside0.mk (hb); have n2_ := Aside0.mk (ho); clear HO_4; clear HB; clear HO_6; have HO_4 := n0_; have HB := n1_; have HO191 := n2_; clear n0_ n1_ n2_; clear ho hb hg hat))
             repeat ((go_step3); try go_wp2_with (first | ((with_reducible refine gate_builtin (b := .append) (xs := #[.tmp 37, .tmp 39]) rfl ?_); at_builtin; refine Kd.R_append (Kd.int .i64) (w0 := w) w.heap.size rfl (.tmp 37) (.tmp 39) 22 3 (.int .i64 0) 8 rfl Try.underlying22 info3 rfl (by decide) (by omega) u6 x6_1 x18_1 [.int .i64 x18_1] (fun _ => True) (fun _ => False) rfl rfl ?aP (fun _ hk => hk.elim) ?aF ?aO ?aB ?aS ?aL ?_; (case aP => exact rfl); (case aB => exact (by repeat (first | (with_reducible first | exact HB.out | apply below_alloc | apply pw_below_drewN | apply below_drew1) | exact HB.out))); (case aF => exact (fun _ _ => trivial)); (case aO => exact (by (with_reducible repeat (first | apply Kd.R_alloc | apply Kd.R_drewN | apply Kd.R_drew)); exact HO_6.out)); (case aS => exact (below_size (by repeat (first | (with_reducible first | exact HB.out | apply below_alloc | apply pw_below_drewN | apply below_drew1) | exact HB.out)))); (case aL => have := LMc17.out; omega); intro v190 w18 ho hb hg hat; rw [← Ny189.out] at ho; have n0_ := Aside0.mk (Kd.R_over' (by (with_reducible repeat (first | apply Kd.R_alloc | apply Kd.R_drewN | apply Kd.R_drew)); exact HO_4.out) (Kd.R_typed (by (with_reducible repeat (first | apply Kd.R_alloc | apply Kd.R_drewN | apply Kd.R_drew)); exact HO_6.out)) (by decide) hg); have n1_ := Aside0.mk (hb); have n2_ := Aside0.mk (ho); clear HO_4; clear HB; clear HO_6; have HO_4 := n0_; have HB := n1_; have HO191 := n2_; clear n0_ n1_ n2_; clear ho hb hg hat)))
             go_roundg k1
             case measure => have := HK1.out; omega
             case rel => exact ⟨(y189), (wrap64 (x18_1 + 1)), (by first | rfl | (simp; done) | (simp [*]; done)), H', ⟨by have := HK1.out; omega⟩, ⟨by (with_reducible repeat (first | apply Kd.R_alloc | apply Kd.R_drewN | apply Kd.R_drew)); exact HO_4.out⟩, ⟨by (with_reducible repeat (first | apply Kd.R_alloc | apply Kd.R_drewN | apply Kd.R_drew)); exact HO191.out⟩, ⟨by repeat (first | (with_reducible first | exact HB.out | apply below_alloc | apply pw_below_drewN | apply below_drew1) | exact HB.out)⟩⟩
            ·rw [if_neg c17] at H
             exact absurd H (by simp)
          ·rw [if_neg c14] at H
           exact absurd H (by simp)
         ·rw [if_neg c13] at H
          exact absurd H (by simp)
        ·replace c11 := Bool.eq_false_iff.mpr c11
         subst c11
         have H1 : (suffix_Firsts.l0 k1 t183 x6_1 (t183.length : Int) (wrap64 (x18_1 + 1))) = some (r1, r2) := by rw [if_neg (show ¬ (false = true) by decide)] at H; exact H
         clear H
         have H := H1
         clear H1
         have H' := Aside0.mk H
         clear H
         have p187 : 0 ≤ (x18_1 : Int) := of_decide_eq_true (by first | (with_reducible assumption) | assumption)
         have q187 : x18_1 < (t183.length : Int) := of_decide_eq_true (by first | (with_reducible assumption) | assumption)
         obtain ⟨ad187, e187, hx187_0⟩ := Kd.at_bool (Kd.R_reads' HO_4.out).2.2 x18_1 p187 q187
         (try rw [← Nbq10.out] at hx187_0)
         cases e187
         replace p187 := eq_true p187
         replace q187 := eq_true q187
         try go_wp2_with (fail)
         repeat ((go_step3); try go_wp2_with (fail))
         go_roundg k1
         case measure => have := HK1.out; omega
         case rel => exact ⟨(x6_1), (wrap64 (x18_1 + 1)), (by first | rfl | (simp; done) | (simp [*]; done)), H', ⟨by have := HK1.out; omega⟩, ⟨by (with_reducible repeat (first | apply Kd.R_alloc | apply Kd.R_drewN | apply Kd.R_drew)); exact HO_4.out⟩, ⟨by (with_reducible repeat (first | apply Kd.R_alloc | apply Kd.R_drewN | apply Kd.R_drew)); exact HO_6.out⟩, ⟨by repeat (first | (with_reducible first | exact HB.out | apply below_alloc | apply pw_below_drewN | apply below_drew1) | exact HB.out)⟩⟩
       ·rw [if_neg c9] at H
        exact absurd H (by simp)
      ·rw [if_neg c8] at H
       exact absurd H (by simp)
    ·rw [if_neg c6] at H
     have c6b0 : decide (x18_1 < (t183.length : Int)) = false := decide_eq_false c6
     clear c6
     simp only [Option.some.injEq, Prod.mk.injEq] at H
     obtain ⟨rfl, rfl⟩ := H
     try go_wp2_with (fail)
     repeat ((go_step3); try go_wp2_with (fail))
     (try rw [Exit.noGoto_ret])
     go_ret2
     exact ⟨_, by first | rfl | (simp [errW_none, errW_some] <;> rfl) | (simp [*, errW_none, errW_some] <;> rfl), by (with_reducible repeat (first | apply Kd.R_alloc | apply Kd.R_drewN | apply Kd.R_drew)); exact HO_6.out, by repeat (first | (with_reducible first | exact HB.out | apply below_alloc | apply pw_below_drewN | apply below_drew1) | exact HB.out)⟩
 ·rw [if_neg c3] at H
  have c3b0 : (t184 == 0) = false := beq_eq_false_iff_ne.mpr c3
  have c3b1 : (t184 != 0) = true := bne_iff_ne.mpr c3
  simp only [Option.some.injEq, Prod.mk.injEq] at H
  obtain ⟨rfl, rfl⟩ := H
  go_enter Try.func23, Try.ntmps23
  try go_wp2_with (first | ((with_reducible refine gate_callee (f := 21) rfl ?_); refine goesL_ (some 10) rfl rfl Try.func21 (by kernel_rfl) rfl #[.slice A0 l0.length c0] rfl (by (try simp only [List.map_toArray, List.map_cons, List.map_nil]); first | done | rfl | (simp only [List.length_drop, List.length_take]; rfl)) ?_; (with_reducible refine (suffix_Kinds.calls k _ _ l0 t183 t184 _ ?side1 ?side2 A2.out).mono ?_); (case side1 => repeat (first | exact HR0.out | (with_reducible refine Kd.C_alloc ?_ _) | (with_reducible refine Kd.C_drewN ?_ _) | (with_reducible refine Kd.C_drew ?_))); (case side2 => exact HC0.out); rintro e w19 ⟨v185, rfl, ho0, hb⟩; refine ⟨_, rfl, ?_⟩; have n0_ := Aside0.mk (Kd.R_lower ho0 (below_size (by repeat (first | (with_reducible first | exact HB.out | apply below_alloc | apply pw_below_drewN | apply below_drew1) | exact HB.out)))); have n1_ := Aside0.mk (below_step (by repeat (first | (with_reducible first | exact HB.out | apply below_alloc | apply pw_below_drewN | apply below_drew1) | exact HB.out)) hb); clear HB; have HO186 := n0_; have HB := n1_; clear n0_ n1_; (try clear hb); (try clear hb2); (try clear hk); (try clear hi); (try clear ho0)))
  repeat ((go_step3); try go_wp2_with (first | ((with_reducible refine gate_callee (f := 21) rfl ?_); refine goesL_ (some 10) rfl rfl Try.func21 (by kernel_rfl) rfl #[.slice A0 l0.length c0] rfl (by (try simp only [List.map_toArray, List.map_cons, List.map_nil]); first | done | rfl | (simp only [List.length_drop, List.length_take]; rfl)) ?_; (with_reducible refine (suffix_Kinds.calls k _ _ l0 t183 t184 _ ?side1 ?side2 A2.out).mono ?_); (case side1 => repeat (first | exact HR0.out | (with_reducible refine Kd.C_alloc ?_ _) | (with_reducible refine Kd.C_drewN ?_ _) | (with_reducible refine Kd.C_drew ?_))); (case side2 => exact HC0.out); rintro e w19 ⟨v185, rfl, ho0, hb⟩; refine ⟨_, rfl, ?_⟩; have n0_ := Aside0.mk (Kd.R_lower ho0 (below_size (by repeat (first | (with_reducible first | exact HB.out | apply below_alloc | apply pw_below_drewN | apply below_drew1) | exact HB.out)))); have n1_ := Aside0.mk (below_step (by repeat (first | (with_reducible first | exact HB.out | apply below_alloc | apply pw_below_drewN | apply below_drew1) | exact HB.out)) hb); clear HB; have HO186 := n0_; have HB := n1_; clear n0_ n1_; (try clear hb); (try clear hb2); (try clear hk); (try clear hi); (try clear ho0))))
  (try rw [Exit.noGoto_ret])
  go_ret2
  exact ⟨_, by first | rfl | (simp [errW_none, errW_some] <;> rfl) | (simp [*, errW_none, errW_some] <;> rfl), by first | exact Kd.R_nil _ _ _ _ _ | exact Kd.N_nil _ _ _ _ _ | exact Kd.V_nil _ _ _ _ _ | exact Kd.Q_nil _ _ _ _ _ | exact Kd.S_nil _ _ _ _ _, by repeat (first | (with_reducible first | exact HB.out | apply below_alloc | apply pw_below_drewN | apply below_drew1) | exact HB.out)⟩

/-! ### induce_induced: function 64 (by hand) -/
def induce_induced.f (k : Nat) (l0 l1 : List Int) : Option (List Int) := if l0.length = 1 then some [0] else (suffix_Kinds.f k l0).bind fun q => if IndPre l0 l1 q.1 q.2 then some (Ind.ind l0 (l1.map Int.toNat)) else none
theorem induce_induced.mono : ∀ a0 a1 k, LeO (induce_induced.f k a0 a1) (induce_induced.f (k + 1) a0 a1) := by
 intro a0 a1 k r h
 unfold induce_induced.f at h ⊢
 by_cases h1 : a0.length = 1
 ·rw [if_pos h1] at h ⊢; exact h
 ·rw [if_neg h1] at h ⊢
  obtain ⟨q, hq, h⟩ := Option.bind_eq_some_iff.1 h
  rw [suffix_Kinds.mono _ _ _ hq, Option.bind_some]
  exact h
theorem induce_induced.own (k : Nat) (A0 : Option Addr) (c0 : Nat) (l0 : List Int) (A1 : Option Addr) (c1 : Nat) (l1 : List Int) (r : List Int) (w : World) (hr0 : Kd.C (Kd.int .i64) w A0 l0.length l0) (hc0 : l0.length ≤ c0) (hr1 : Kd.C (Kd.int .i64) w A1 l1.length l1) (hc1 : l1.length ≤ c1) (h : induce_induced.f k l0 l1 = some r) :
  Calls Try.prog 64 #[.slice A0 l0.length c0, .slice A1 l1.length c1] w (Ret1 w r) := by
 unfold induce_induced.f at h
 by_cases h1 : l0.length = 1
 ·rw [if_pos h1] at h
  cases h
  exact induced_one A0 A1 c0 c1 l0 l1 w h1
 ·rw [if_neg h1] at h
  obtain ⟨⟨ks, e2⟩, hq, h⟩ := Option.bind_eq_some_iff.1 h
  by_cases hp : IndPre l0 l1 ks e2
  ·rw [if_pos hp] at h
   cases h
   have hr0' := rd_of_kdc hr0 hc0 hp.codes.wf
   have hr1' := rd_of_kdc hr1 hc1 hp.wf1
   refine induced_own A0 A1 c0 c1 l0 l1 w ks e2 hr0' hr1' h1 hp fun w' hu => Lib.hid ?_
   refine (suffix_Kinds.calls k A0 c0 l0 ks e2 w' (kd_of_rd (hr0'.up hu)) hc0 hq).mono fun en w'' hh => ?_
   obtain ⟨v, he, hv, hb⟩ := hh
   exact kdPost_of he hv hb hp
  ·rw [if_neg hp] at h; cases h
theorem induce_induced.calls (k : Nat) (A0 : Option Addr) (c0 : Nat) (l0 : List Int) (A1 : Option Addr) (c1 : Nat) (l1 : List Int) (r : List Int) (w : World) (hr0 : Kd.C (Kd.int .i64) w A0 l0.length l0) (hc0 : l0.length ≤ c0) (hr1 : Kd.C (Kd.int .i64) w A1 l1.length l1) (hc1 : l1.length ≤ c1) (h : induce_induced.f k l0 l1 = some r) :
  Calls Try.prog 64 #[.slice A0 l0.length c0, .slice A1 l1.length c1] w fun e w' => ∃ v0_ : Value, e = .returned (v0_) ∧ Kd.R (Kd.int .i64) 3 w' w.heap.size (fun _ => True) v0_ r ∧ Below w.heap.size w w' :=
 (induce_induced.own k A0 c0 l0 A1 c1 l1 r w hr0 hc0 hr1 hc1 h).mono fun _ _ hp => by
  obtain ⟨v, he, hv, hu⟩ := hp.out
  exact ⟨v, he, kd_of_own hv fun _ _ => trivial, hu.out⟩


/-! ### induce_Induce: function 39 (by hand) -/
def induce_Induce.f (k : Nat) (l0 l1 : List Int) : Option (List Int × Int) := if inKs .i64 l0 = true ∧ inKs .i64 l1 = true ∧ l1.length ≤ 65536 then (suffix_Firsts.f k l0).bind fun q => if q.2 = 0 then (if inKs .i64 q.1 = true ∧ q.1.Pairwise (· ≤ ·) then (if l1.isPerm q.1 = true then (induce_induced.f k l0 l1).bind fun r => some (r, 0) else some ([], 3)) else none) else (if inKs .i64 q.1 = true then some ([], q.2) else none) else none
theorem induce_Induce.mono : ∀ a0 a1 k, LeO (induce_Induce.f k a0 a1) (induce_Induce.f (k + 1) a0 a1) := by
 intro a0 a1 k r h
 unfold induce_Induce.f at h ⊢
 by_cases h1 : inKs .i64 a0 = true ∧ inKs .i64 a1 = true ∧ a1.length ≤ 65536
 ·rw [if_pos h1] at h ⊢
  obtain ⟨q, hq, h⟩ := Option.bind_eq_some_iff.1 h
  rw [suffix_Firsts.mono _ _ _ hq, Option.bind_some]
  by_cases h2 : q.2 = 0
  ·rw [if_pos h2] at h ⊢
   by_cases h3 : inKs .i64 q.1 = true ∧ q.1.Pairwise (· ≤ ·)
   ·rw [if_pos h3] at h ⊢
    by_cases h4 : a1.isPerm q.1 = true
    ·rw [if_pos h4] at h ⊢
     obtain ⟨r', hr', h⟩ := Option.bind_eq_some_iff.1 h
     rw [induce_induced.mono _ _ _ _ hr', Option.bind_some]
     exact h
    ·rw [if_neg h4] at h ⊢; exact h
   ·rw [if_neg h3] at h; cases h
  ·rw [if_neg h2] at h ⊢; exact h
 ·rw [if_neg h1] at h; cases h
theorem induce_Induce.calls (k : Nat) (A0 : Option Addr) (c0 : Nat) (l0 : List Int) (A1 : Option Addr) (c1 : Nat) (l1 : List Int) (r1 : List Int) (r2 : Int) (w : World) (hr0 : Kd.C (Kd.int .i64) w A0 l0.length l0) (hc0 : l0.length ≤ c0) (hr1 : Kd.C (Kd.int .i64) w A1 l1.length l1) (hc1 : l1.length ≤ c1) (h : induce_Induce.f k l0 l1 = some (r1, r2)) :
  Calls Try.prog 39 #[.slice A0 l0.length c0, .slice A1 l1.length c1] w fun e w' => ∃ v0_ : Value, e = .returned (.tuple #[v0_, .int .i64 r2]) ∧ Kd.R (Kd.int .i64) 3 w' w.heap.size (fun _ => True) v0_ r1 ∧ Below w.heap.size w w' := by
 unfold induce_Induce.f at h
 by_cases h1 : inKs .i64 l0 = true ∧ inKs .i64 l1 = true ∧ l1.length ≤ 65536
 ·rw [if_pos h1] at h
  have hrd0 := rd_of_kdc hr0 hc0 (inKs_of h1.1)
  have hrd1 := rd_of_kdc hr1 hc1 (inKs_of h1.2.1)
  obtain ⟨⟨all, e⟩, hq, h⟩ := Option.bind_eq_some_iff.1 h
  have hck : inKs .i64 all = true → Hid (Calls Try.prog 23 #[.slice A0 l0.length c0] w (Ret2 w all e)) := fun hi => Lib.hid ((suffix_Firsts.calls k A0 c0 l0 all e w hr0 hc0 hq).mono fun _ _ hh => by
   obtain ⟨v, he, hv, hb⟩ := hh
   exact ⟨v, he, own_of_kd hv (inKs_of hi), ⟨hb⟩⟩)
  have fin : ∀ {r1 : List Int} {r2 : Int}, Calls Try.prog 39 #[.slice A0 l0.length c0, .slice A1 l1.length c1] w (Ret2 w r1 r2) → Calls Try.prog 39 #[.slice A0 l0.length c0, .slice A1 l1.length c1] w fun e w' => ∃ v0_ : Value, e = .returned (.tuple #[v0_, .int .i64 r2]) ∧ Kd.R (Kd.int .i64) 3 w' w.heap.size (fun _ => True) v0_ r1 ∧ Below w.heap.size w w' :=
   fun h => h.mono fun _ _ hp => by
    obtain ⟨v, he, hv, hu⟩ := hp.out
    exact ⟨v, he, kd_of_own hv fun _ _ => trivial, hu.out⟩
  by_cases h0 : e = 0
  ·subst h0
   rw [if_pos rfl] at h
   by_cases h3 : inKs .i64 all = true ∧ all.Pairwise (· ≤ ·)
   ·rw [if_pos h3] at h
    by_cases h4 : l1.isPerm all = true
    ·rw [if_pos h4] at h
     obtain ⟨r', hr', h⟩ := Option.bind_eq_some_iff.1 h
     cases h
     have := indInduce_ok A0 A1 c0 c1 l0 l1 w hrd1 h1.2.2 all (Lib.hid h3.2) (hck h3.1) _ fun _ w' hu => Lib.hid (induce_induced.own k A0 c0 l0 A1 c1 l1 _ w' (kd_of_rd (hrd0.up hu)) hc0 (kd_of_rd (hrd1.up hu)) hc1 hr')
     unfold indRes indErr at this
     rw [if_pos h4, if_pos h4] at this
     exact fin this
    ·rw [if_neg h4] at h
     cases h
     have := indInduce_ok A0 A1 c0 c1 l0 l1 w hrd1 h1.2.2 all (Lib.hid h3.2) (hck h3.1) [] fun hp => absurd (List.isPerm_iff.2 hp) h4
     unfold indRes indErr at this
     rw [if_neg h4, if_neg h4] at this
     exact fin this
   ·rw [if_neg h3] at h; cases h
  ·rw [if_neg h0] at h
   by_cases h3 : inKs .i64 all = true
   ·rw [if_pos h3] at h
    cases h
    exact fin (indInduce_bad A0 A1 c0 c1 l0 l1 w _ h0 all (hck h3))
   ·rw [if_neg h3] at h; cases h
 ·rw [if_neg h1] at h; cases h


/-! ### incipitlaw16_known: function 38 (by hand) -/
def incipitlaw16_known.ok (k : Nat) : Prop := induce_Heads.f k [2, 1, 2, 1, 0] = some ([0, 1, 3], 0) ∧ induce_Tails.f k [2, 1, 2, 1, 0] = some ([1, 3, 5], 0) ∧ induce_Induce.f k [2, 1, 2, 1, 0] [4, 1] = some ([4, 3, 1, 2, 0], 0) ∧ incipitref06_Same.f k [0, 1, 3] [0, 1, 3] = some true ∧ incipitref06_Same.f k [1, 3, 5] [1, 3, 5] = some true ∧ incipitref06_Same.f k [4, 3, 1, 2, 0] [4, 3, 1, 2, 0] = some true
instance (k : Nat) : Decidable (incipitlaw16_known.ok k) := by unfold incipitlaw16_known.ok; infer_instance
def incipitlaw16_known.f (k : Nat) : Option Bool := if incipitlaw16_known.ok k then some true else none
theorem incipitlaw16_known.mono : ∀ k, LeO (incipitlaw16_known.f k) (incipitlaw16_known.f (k + 1)) := by
 intro k r h
 unfold incipitlaw16_known.f at h ⊢
 by_cases h1 : incipitlaw16_known.ok k
 ·rw [if_pos h1] at h
  obtain ⟨g1, g2, g3, g4, g5, g6⟩ := h1
  rw [if_pos ⟨induce_Heads.mono _ _ _ g1, induce_Tails.mono _ _ _ g2, induce_Induce.mono _ _ _ _ g3, incipitref06_Same.mono _ _ _ _ g4, incipitref06_Same.mono _ _ _ _ g5, incipitref06_Same.mono _ _ _ _ g6⟩]
  exact h
 ·rw [if_neg h1] at h; cases h
set_option maxHeartbeats 4000000 in
set_option maxRecDepth 100000 in
theorem incipitlaw16_known.calls (k : Nat) (r : Bool) (w : World) (h : incipitlaw16_known.f k = some r) :
  Calls Try.prog 38 #[] w fun e w' => e = .returned (.bool r) ∧ Below w.heap.size w w' := by
 unfold incipitlaw16_known.f at h
 by_cases h1 : incipitlaw16_known.ok k
 ·rw [if_pos h1] at h
  obtain rfl := Option.some.inj h
  obtain ⟨g1, g2, g3, g4, g5, g6⟩ := h1
  exact ind16_known w (fun A c w' hr => (induce_Heads.calls k A c _ _ _ w' (kd_of_rd hr) hr.le g1).mono fun _ _ ⟨v, he, hv, hb⟩ => ⟨v, he, own_of_kd hv (i64_small (by decide)), ⟨hb⟩⟩) (fun A c w' hr => (induce_Tails.calls k A c _ _ _ w' (kd_of_rd hr) hr.le g2).mono fun _ _ ⟨v, he, hv, hb⟩ => ⟨v, he, own_of_kd hv (i64_small (by decide)), ⟨hb⟩⟩)
   (fun A c B d w' hr hs => (induce_Induce.calls k A c _ B d _ _ _ w' (kd_of_rd hr) hr.le (kd_of_rd hs) hs.le g3).mono fun _ _ ⟨v, he, hv, hb⟩ => ⟨v, he, own_of_kd hv (i64_small (by decide)), ⟨hb⟩⟩)
   (fun A c B d w' hr hs => (incipitref06_Same.calls k A c _ B d _ _ w' (kd_of_rd hr) hr.le (kd_of_rd hs) hs.le g4).mono fun _ _ ⟨he, hd⟩ => ⟨he, hd.out⟩)
   (fun A c B d w' hr hs => (incipitref06_Same.calls k A c _ B d _ _ w' (kd_of_rd hr) hr.le (kd_of_rd hs) hs.le g5).mono fun _ _ ⟨he, hd⟩ => ⟨he, hd.out⟩)
   (fun A c B d w' hr hs => (incipitref06_Same.calls k A c _ B d _ _ w' (kd_of_rd hr) hr.le (kd_of_rd hs) hs.le g6).mono fun _ _ ⟨he, hd⟩ => ⟨he, hd.out⟩)
 ·rw [if_neg h1] at h; cases h


/-! ### induce_named: function 65 (by hand) -/
def induce_named.ok (l0 l1 q : List Int) (e : Int) : Prop := CodesP l0 ∧ inKs .i64 l1 = true ∧ l1.length ≤ 65536 ∧ e = 0 ∧ q.Pairwise (· < ·) ∧ (∀ z ∈ q, 0 ≤ z ∧ z < (l0.length : Int)) ∧ q.length ≤ 65536
instance (l0 l1 q : List Int) (e : Int) : Decidable (induce_named.ok l0 l1 q e) := by unfold induce_named.ok; infer_instance
def induce_named.f (k : Nat) (l0 l1 : List Int) : Option (List Int × Int) := (suffix_Firsts.f k l0).bind fun q => if induce_named.ok l0 l1 q.1 q.2 then some ((q.1.map Int.toNat).map fun (i : Nat) => ((nmAll l0 (q.1.map Int.toNat) l1).nm (i : Int)).getD 0, ((nmAll l0 (q.1.map Int.toNat) l1).n : Int)) else none
theorem induce_named.mono : ∀ a0 a1 k, LeO (induce_named.f k a0 a1) (induce_named.f (k + 1) a0 a1) := by
 intro a0 a1 k r h
 unfold induce_named.f at h ⊢
 obtain ⟨q, hq, h⟩ := Option.bind_eq_some_iff.1 h
 rw [suffix_Firsts.mono _ _ _ hq, Option.bind_some]
 exact h
theorem induce_named.calls (k : Nat) (A0 : Option Addr) (c0 : Nat) (l0 : List Int) (A1 : Option Addr) (c1 : Nat) (l1 : List Int) (r1 : List Int) (r2 : Int) (w : World) (hr0 : Kd.C (Kd.int .i64) w A0 l0.length l0) (hc0 : l0.length ≤ c0) (hr1 : Kd.C (Kd.int .i64) w A1 l1.length l1) (hc1 : l1.length ≤ c1) (h : induce_named.f k l0 l1 = some (r1, r2)) :
  Calls Try.prog 65 #[.slice A0 l0.length c0, .slice A1 l1.length c1] w fun e w' => ∃ v0_ : Value, e = .returned (.tuple #[v0_, .int .i64 r2]) ∧ Kd.R (Kd.int .i64) 3 w' w.heap.size (fun _ => True) v0_ r1 ∧ Below w.heap.size w w' := by
 unfold induce_named.f at h
 obtain ⟨⟨q, e⟩, hq, h⟩ := Option.bind_eq_some_iff.1 h
 by_cases hp : induce_named.ok l0 l1 q e
 ·rw [if_pos hp] at h
  cases h
  obtain ⟨p1, p2, p3, rfl, p5, p6, p7⟩ := hp
  have hrd := rd_of_kdc hr0 hc0 p1.codes.wf
  have hrd1 := rd_of_kdc hr1 hc1 (inKs_of p2)
  obtain ⟨b, o, rfl⟩ := hrd.plain p1.codes.pos
  have hqn := natI p6
  have hlen : (q.map Int.toNat).length = q.length := by simp
  refine (indNamed_calls b o c0 l0 A1 c1 l1 w hrd hrd1 p1.2.1 p3 (q.map Int.toNat) (Lib.hid (natI_lt p5 p6)) (Lib.hid (natI_in p6)) (by rw [hlen]; exact p7) fun w' hu => Lib.hid ?_).mono fun en w' hh => ?_
  ·rw [← hqn]
   exact (suffix_Firsts.calls k _ c0 l0 q 0 w' (kd_of_rd (hrd.up hu)) hc0 hq).mono fun _ _ ⟨v, he, hv, hb⟩ => ⟨v, he, own_of_kd hv fun z hz => InK.of_i64 (by have := p6 z hz; omega) (by have := p6 z hz; have := p1.2.1; omega), ⟨hb⟩⟩
  ·obtain ⟨v, he, hv, hu⟩ := hh.out
   exact ⟨v, he, kd_of_own hv fun _ _ => trivial, hu.out⟩
 ·rw [if_neg hp] at h; cases h


/-! ### induce_Reduced: function 46 -/
def induce_Reduced.f (k : Nat) (l0 : List Int) : Option (List Int × Int) := (suffix_Firsts.f k l0).bind fun bt192 => (if bt192.2 = 0 then ((induce_induced.f k l0 bt192.1).bind fun t196 => ((induce_named.f k l0 t196).bind fun bt199 => (some (bt199.1, 0)))) else (some (([] : List Int), bt192.2)))
theorem induce_Reduced.mono : ∀ a0 k, LeO (induce_Reduced.f k a0) (induce_Reduced.f (k + 1) a0) := by
 intro a0 k
 unfold induce_Reduced.f
 repeat' first
   | (with_reducible exact induce_induced.mono _ _ _)
   | (with_reducible exact induce_named.mono _ _ _)
   | (with_reducible exact suffix_Firsts.mono _ _)
   | (with_reducible exact LeO.refl _)
   | (with_reducible exact LeO.none _)
   | (with_reducible refine LeO.ite ?_ ?_)
   | (with_reducible refine LeO.bind ?_ (fun _ => ?_))
   | exact induce_induced.mono _ _ _
   | exact induce_named.mono _ _ _
   | exact suffix_Firsts.mono _ _
   | exact LeO.none _
   | refine LeO.ite ?_ ?_
   | refine LeO.bind ?_ (fun _ => ?_)
set_option maxHeartbeats 8000000 in
set_option maxRecDepth 100000 in
theorem induce_Reduced.calls (k : Nat) (A0 : Option Addr) (c0 : Nat) (l0 : List Int) (r1 : List Int) (r2 : Int) (w : World) (hr0 : Kd.C (Kd.int .i64) w A0 l0.length l0) (hc0 : l0.length ≤ c0) (h : induce_Reduced.f k l0 = some (r1, r2)) :
  Calls Try.prog 46 #[.slice A0 l0.length c0] w fun e w' => ∃ v0_ : Value, e = .returned (.tuple #[v0_, .int .i64 r2]) ∧ Kd.R (Kd.int .i64) 3 w' w.heap.size (fun _ => True) v0_ r1 ∧ Below w.heap.size w w' := by
 have HR0 := Aside0.mk hr0
 have HC0 := Aside0.mk hc0
 clear hr0 hc0
 have HB := Aside0.mk (Below.refl w.heap.size w)
 have H : ((suffix_Firsts.f k l0).bind fun bt192 => (if bt192.2 = 0 then ((induce_induced.f k l0 bt192.1).bind fun t196 => ((induce_named.f k l0 t196).bind fun bt199 => (some (bt199.1, 0)))) else (some (([] : List Int), bt192.2)))) = some (r1, r2) := h
 clear h
 replace H := Option.bind_eq_some_iff.mp H
 obtain ⟨⟨t192, t193⟩, A20, H⟩ := H
 replace H : (if t193 = 0 then ((induce_induced.f k l0 t192).bind fun t196 => ((induce_named.f k l0 t196).bind fun bt199 => (some (bt199.1, 0)))) else (some (([] : List Int), t193))) = some (r1, r2) := H
 have A2 := Aside0.mk A20
 clear A20
 by_cases c3 : t193 = 0
 ·rw [if_pos c3] at H
  have c3b0 : (t193 == 0) = true := beq_iff_eq.mpr c3
  have c3b1 : (t193 != 0) = false := bne_eq_false_iff_eq.mpr c3
  clear c3
  replace H := Option.bind_eq_some_iff.mp H
  obtain ⟨t196, A40, H⟩ := H
  replace H : ((induce_named.f k l0 t196).bind fun bt199 => (some (bt199.1, 0))) = some (r1, r2) := H
  have A4 := Aside0.mk A40
  clear A40
  replace H := Option.bind_eq_some_iff.mp H
  obtain ⟨⟨t199, t200⟩, A50, H⟩ := H
  replace H : (some (t199, 0)) = some (r1, r2) := H
  have A5 := Aside0.mk A50
  clear A50
  simp only [Option.some.injEq, Prod.mk.injEq] at H
  obtain ⟨rfl, rfl⟩ := H
  go_enter Try.func46, Try.ntmps46
  go_wp2_with (first | ((with_reducible refine gate_callee (f := 23) rfl ?_); refine goesL_ (some 10) rfl rfl Try.func23 (by kernel_rfl) rfl #[.slice A0 l0.length c0] rfl (by (try simp only [List.map_toArray, List.map_cons, List.map_nil]); first | done | rfl | (simp only [List.length_drop, List.length_take]; rfl)) ?_; (with_reducible refine (suffix_Firsts.calls k _ _ l0 t192 t193 _ ?side1 ?side2 A2.out).mono ?_); (case side1 => repeat (first | exact HR0.out | (with_reducible refine Kd.C_alloc ?_ _) | (with_reducible refine Kd.C_drewN ?_ _) | (with_reducible refine Kd.C_drew ?_))); (case side2 => exact HC0.out); rintro e w6 ⟨v194, rfl, ho0, hb⟩; refine ⟨_, rfl, ?_⟩; have n0_ := Aside0.mk (Kd.R_lower ho0 (below_size (by repeat (first | (with_reducible first | exact HB.out | apply below_alloc | apply pw_below_drewN | apply below_drew1) | exact HB.out)))); have n1_ := Aside0.mk (below_step (by repeat (first | (with_reducible first | exact HB.out | apply below_alloc | apply pw_below_drewN | apply below_drew1) | exact HB.out)) hb); clear HB; have HO195 := n0_; have HB := n1_; clear n0_ n1_; (try clear hb); (try clear hb2); (try clear hk); (try clear hi); (try clear ho0); obtain ⟨Ao7, co7, eo7⟩ := Kd.R_slice HO195.out; subst eo7) | ((with_reducible refine gate_callee (f := 64) rfl ?_); refine goesL_ (some 20) rfl rfl Try.func64 (by kernel_rfl) rfl #[.slice A0 l0.length c0, .slice Ao7 t192.length co7] rfl (by (try simp only [List.map_toArray, List.map_cons, List.map_nil]); first | done | rfl | (simp only [List.length_drop, List.length_take]; rfl)) ?_; (with_reducible refine (induce_induced.calls k _ _ l0 _ _ t192 t196 _ ?side1 ?side2 ?side3 ?side4 A4.out).mono ?_); (case side1 => repeat (first | exact (Kd.C_below HR0.out HB.out) | (with_reducible refine Kd.C_alloc ?_ _) | (with_reducible refine Kd.C_drewN ?_ _) | (with_reducible refine Kd.C_drew ?_))); (case side2 => exact HC0.out); (case side3 => repeat (first | exact (Kd.R_reads' HO195.out).2.2 | (with_reducible refine Kd.C_alloc ?_ _) | (with_reducible refine Kd.C_drewN ?_ _) | (with_reducible refine Kd.C_drew ?_))); (case side4 => exact (Kd.R_reads' HO195.out).2.1); rintro e w8 ⟨v197, rfl, ho0, hb⟩; refine ⟨_, rfl, ?_⟩; have n0_ := Aside0.mk (Kd.R_elder' (by (with_reducible repeat (first | apply Kd.R_alloc | apply Kd.R_drewN | apply Kd.R_drew)); exact HO195.out) (Kd.R_base ho0) hb); have n1_ := Aside0.mk (Kd.R_lower (Kd.R_new' ho0 (Kd.R_lt (by (with_reducible repeat (first | apply Kd.R_alloc | apply Kd.R_drewN | apply Kd.R_drew)); exact HO195.out))) (below_size (by repeat (first | (with_reducible first | exact HB.out | apply below_alloc | apply pw_below_drewN | apply below_drew1) | exact HB.out)))); have n2_ := Aside0.mk (below_step (by repeat (first | (with_reducible first | exact HB.out | apply below_alloc | apply pw_below_drewN | apply below_drew1) | exact HB.out)) hb); clear HO195; clear HB; have HO195 := n0_; have HO198 := n1_; have HB := n2_; clear n0_ n1_ n2_; (try clear hb); (try clear hb2); (try clear hk); (try clear hi); (try clear ho0); obtain ⟨Ao9, co9, eo9⟩ := Kd.R_slice HO198.out; subst eo9) | ((with_reducible refine gate_callee (f := 65) rfl ?_); refine goesL_ (some 21) rfl rfl Try.func65 (by kernel_rfl) rfl #[.slice A0 l0.length c0, .slice Ao9 t196.length co9] rfl (by (try simp only [List.map_toArray, List.map_cons, List.map_nil]); first | done | rfl | (simp only [List.length_drop, List.length_take]; rfl)) ?_; (with_reducible refine (induce_named.calls k _ _ l0 _ _ t196 t199 t200 _ ?side1 ?side2 ?side3 ?side4 A5.out).mono ?_); (case side1 => repeat (first | exact (Kd.C_below HR0.out HB.out) | (with_reducible refine Kd.C_alloc ?_ _) | (with_reducible refine Kd.C_drewN ?_ _) | (with_reducible refine Kd.C_drew ?_))); (case side2 => exact HC0.out); (case side3 => repeat (first | exact (Kd.R_reads' HO198.out).2.2 | (with_reducible refine Kd.C_alloc ?_ _) | (with_reducible refine Kd.C_drewN ?_ _) | (with_reducible refine Kd.C_drew ?_))); (case side4 => exact (Kd.R_reads' HO198.out).2.1); rintro e w10 ⟨v201, rfl, ho0, hb⟩; refine ⟨_, rfl, ?_⟩; have n0_ := Aside0.mk (Kd.R_elder' (by (with_reducible repeat (first | apply Kd.R_alloc | apply Kd.R_drewN | apply Kd.R_drew)); exact HO195.out) (Kd.R_base ho0) hb); have n1_ := Aside0.mk (Kd.R_elder' (by (with_reducible repeat (first | apply Kd.R_alloc | apply Kd.R_drewN | apply Kd.R_drew)); exact HO198.out) (Kd.R_base ho0) hb); have n2_ := Aside0.mk (Kd.R_lower (Kd.R_new' (Kd.R_new' ho0 (Kd.R_lt (by (with_reducible repeat (first | apply Kd.R_alloc | apply Kd.R_drewN | apply Kd.R_drew)); exact HO195.out))) (Kd.R_lt (by (with_reducible repeat (first | apply Kd.R_alloc | apply Kd.R_drewN | apply Kd.R_drew)); exact HO198.out))) (below_size (by repeat (first | (with_reducible first | exact HB.out | apply below_alloc | apply pw_below_drewN | apply below_drew1) | exact HB.out)))); have n3_ := Aside0.mk (below_step (by repeat (first | (with_reducible first | exact HB.out | apply below_alloc | apply pw_below_drewN | apply below_drew1) | exact HB.out)) hb); clear HO195; clear HO198; clear HB; have HO195 := n0_; have HO198 := n1_; have HO202 := n2_; have HB := n3_; clear n0_ n1_ n2_ n3_; (try clear hb); (try clear hb2); (try clear hk); (try clear hi); (try clear ho0)))
  go_ret2
  exact ⟨_, by first | rfl | (simp [errW_none, errW_some] <;> rfl) | (simp [*, errW_none, errW_some] <;> rfl), by (with_reducible repeat (first | apply Kd.R_alloc | apply Kd.R_drewN | apply Kd.R_drew)); exact Kd.R_mono HO202.out (fun _ hk => trivial), by repeat (first | (with_reducible first | exact HB.out | apply below_alloc | apply pw_below_drewN | apply below_drew1) | exact HB.out)⟩
 ·rw [if_neg c3] at H
  have c3b0 : (t193 == 0) = false := beq_eq_false_iff_ne.mpr c3
  have c3b1 : (t193 != 0) = true := bne_iff_ne.mpr c3
  simp only [Option.some.injEq, Prod.mk.injEq] at H
  obtain ⟨rfl, rfl⟩ := H
  go_enter Try.func46, Try.ntmps46
  go_wp2_with (first | ((with_reducible refine gate_callee (f := 23) rfl ?_); refine goesL_ (some 10) rfl rfl Try.func23 (by kernel_rfl) rfl #[.slice A0 l0.length c0] rfl (by (try simp only [List.map_toArray, List.map_cons, List.map_nil]); first | done | rfl | (simp only [List.length_drop, List.length_take]; rfl)) ?_; (with_reducible refine (suffix_Firsts.calls k _ _ l0 t192 t193 _ ?side1 ?side2 A2.out).mono ?_); (case side1 => repeat (first | exact HR0.out | (with_reducible refine Kd.C_alloc ?_ _) | (with_reducible refine Kd.C_drewN ?_ _) | (with_reducible refine Kd.C_drew ?_))); (case side2 => exact HC0.out); rintro e w11 ⟨v194, rfl, ho0, hb⟩; refine ⟨_, rfl, ?_⟩; have n0_ := Aside0.mk (Kd.R_lower ho0 (below_size (by repeat (first | (with_reducible first | exact HB.out | apply below_alloc | apply pw_below_drewN | apply below_drew1) | exact HB.out)))); have n1_ := Aside0.mk (below_step (by repeat (first | (with_reducible first | exact HB.out | apply below_alloc | apply pw_below_drewN | apply below_drew1) | exact HB.out)) hb); clear HB; have HO195 := n0_; have HB := n1_; clear n0_ n1_; (try clear hb); (try clear hb2); (try clear hk); (try clear hi); (try clear ho0)))
  go_ret2
  exact ⟨_, by first | rfl | (simp [errW_none, errW_some] <;> rfl) | (simp [*, errW_none, errW_some] <;> rfl), by first | exact Kd.R_nil _ _ _ _ _ | exact Kd.N_nil _ _ _ _ _ | exact Kd.V_nil _ _ _ _ _ | exact Kd.Q_nil _ _ _ _ _ | exact Kd.S_nil _ _ _ _ _, by repeat (first | (with_reducible first | exact HB.out | apply below_alloc | apply pw_below_drewN | apply below_drew1) | exact HB.out)⟩

end Go.Proofs.Ythkofhidhghmmaa.PIndR
