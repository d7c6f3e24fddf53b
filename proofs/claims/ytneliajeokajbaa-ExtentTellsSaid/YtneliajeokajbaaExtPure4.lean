/- Layer 8: the pure side: the document's Check and All, At, Find, Part; ExtentTells. -/
import Derived.Test.YtneliajeokajbaaPExtx9
import Derived.Test.YtneliajeokajbaaExtPure3
namespace Go.Proofs.Ytneliajeokajbaa.ExtPure
open Go.RowKit Go.Proofs.Ytneliajeokajbaa Go.Proofs.Ytneliajeokajbaa.PExt Go.Proofs.YtneliajeokajbaaW.PrintWords Go.Proofs.YtneliajeokajbaaW.PrintMore
set_option linter.unusedVariables false
theorem To_l (a : List E) : ∀ d i : Nat, i + d = min a.length 30 → Ev (fun k => incipitlaw08_To.l0 k (toR a) (toE (a.take i)) (i : Int)) (toE (a.take 30)) := by
  intro d
  induction d with
  | zero =>
    intro i hi
    rw [show a.take i = a.take 30 by
      rcases Nat.le_total a.length 30 with h | h
      · rw [List.take_of_length_le (by omega), List.take_of_length_le h]
      · rw [show i = 30 by omega]]
    refine Ev_now fun k => ?_
    simp only [incipitlaw08_To.l0]
    by_cases h : (i : Int) < ((toR a).length : Int)
    · rw [if_pos h, if_neg (by rw [toR_len] at h; omega)]
    · rw [if_neg h]
  | succ d ih =>
    intro i hi
    exact Ev_to (ih (i + 1) (by omega)) fun k => by
      simp only [incipitlaw08_To.l0]
      rw [if_pos (by rw [toR_len]; omega), if_pos (by omega), if_pos (by omega), if_pos (by rw [toE_len, List.length_take]; omega), w_succ i (by omega), toR_rd _ _ (by omega), take_succ_getD a i (0, 0) (by omega)]
      simp [toE]
theorem To_f (a : List E) : Ev (fun k => incipitlaw08_To.f k (toR a)) (toE (a.take 30)) := by
  have := To_l a (min a.length 30) 0 (by omega)
  exact Ev_as this fun k => by unfold incipitlaw08_To.f; rfl

/-! ### All, Check, the document's -/
theorem rall_l1 (l : List E) (hs : l.length ≤ 4096) (i : Nat) (hi : i < l.length) (f : Int) (c : Nat) (hrd : rd_T96 (toR l) (i : Int) = ⟨f, (c : Int)⟩) (hf : 0 ≤ f ∧ f ≤ 4096) (hc : c ≤ 2048)
    (hrest : ∀ acc, acc.length + (allP (l.drop (i + 1))).length ≤ 1000000000 → Ev (fun k => incipitref08_All.l0 k (toR l) acc ((i + 1 : Nat) : Int)) (acc ++ allP (l.drop (i + 1)))) : ∀ (d j : Nat) (acc : List Int), j + d = c → acc.length + d + (allP (l.drop (i + 1))).length ≤ 1000000000 →
    Ev (fun k => incipitref08_All.l1 k (toR l) acc (i : Int) (j : Int)) (acc ++ ((List.range c).drop j).map (fun j : Nat => f + (j : Int)) ++ allP (l.drop (i + 1))) := by
  intro d
  induction d with
  | zero =>
    intro j acc hj hl
    rw [List.drop_of_length_le (by rw [List.length_range]; omega), List.map_nil, List.append_nil]
    exact Ev_to (hrest acc (by omega)) fun k => by simp only [incipitref08_All.l1, hrd]; rw [if_pos (by omega), if_pos (by rw [toR_len]; omega), if_neg (by omega), w_succ i (by omega)]
  | succ d ih =>
    intro j acc hj hl
    have hn := ih (j + 1) (acc ++ [f + (j : Int)]) (by omega) (by simp; omega)
    rw [show ((List.range c).drop j).map (fun j : Nat => f + (j : Int)) = (f + (j : Int)) :: ((List.range c).drop (j + 1)).map (fun j : Nat => f + (j : Int)) by
      rw [drop_cons (List.range c) j 0 (by rw [List.length_range]; omega), List.map_cons]
      simp [List.getD_eq_getElem?_getD, show j < c by omega]]
    rw [List.append_assoc acc [_], List.singleton_append] at hn
    exact Ev_to hn fun k => by
      simp only [incipitref08_All.l1, hrd]
      rw [if_pos (by omega), if_pos (by rw [toR_len]; omega), if_pos (by omega), if_pos (by omega), w_id (by omega) (by omega), w_succ j (by omega)]
theorem rall_l0 (l : List E) (hs : l.length ≤ 4096) (hr : ∀ e ∈ l, rightP e = true) : ∀ (d i : Nat) (acc : List Int), i + d = l.length → acc.length + (allP (l.drop i)).length ≤ 1000000000 →
    Ev (fun k => incipitref08_All.l0 k (toR l) acc (i : Int)) (acc ++ allP (l.drop i)) := by
  intro d
  induction d with
  | zero =>
    intro i acc hi hl
    rw [List.drop_of_length_le (by omega)]
    simp only [allP, List.flatMap_nil, List.append_nil]
    exact Ev_now fun k => by simp only [incipitref08_All.l0]; rw [if_neg (by rw [toR_len]; omega)]
  | succ d ih =>
    intro i acc hi hl
    have he := (rightP_iff _).1 (hr _ (getD_mem l i (0, 0) (by omega)))
    rw [drop_cons l i (0, 0) (by omega), allP_cons] at hl ⊢
    have hrd := toR_rd l i (by omega)
    generalize l.getD i (0, 0) = e at *
    obtain ⟨n, hn⟩ := Int.eq_ofNat_of_zero_le (show 0 ≤ e.2 by omega)
    rw [List.length_append, List.length_map, List.length_range] at hl
    rw [hn] at hrd
    have h1 := rall_l1 l hs i (by omega) e.1 n hrd (by omega) (by omega) (fun acc' h' => ih (i + 1) acc' (by omega) h') n 0 acc (by omega) (by omega)
    rw [List.drop_zero] at h1
    rw [← List.append_assoc, hn, Int.toNat_natCast]
    exact Ev_to h1 fun k => by
      simp only [incipitref08_All.l0]
      rw [if_pos (by rw [toR_len]; omega)]
      rfl
theorem rall_f (l : List E) (hs : l.length ≤ 4096) (hr : ∀ e ∈ l, rightP e = true) : Ev (fun k => incipitref08_All.f k (toR l)) (allP l) := by
  have hb := sumC_bound l hr
  have hl := allP_len l hr
  have := rall_l0 l hs hr l.length 0 [] (by omega) (by rw [List.drop_zero]; simp only [List.length_nil]; omega)
  rw [List.drop_zero, List.nil_append] at this
  exact Ev_as this fun k => by unfold incipitref08_All.f; rfl
theorem apart_take_false (l : List E) (n : Nat) (h : apartP (l.take n) = false) : apartP l = false := by
  have h2 : ∀ (a b : List E), apartP (a ++ b) = true → apartP a = true := by
    intro a b
    induction a with
    | nil => intro _; rfl
    | cons x a ih2 =>
      cases a with
      | nil => intro _; rfl
      | cons y a =>
        intro h
        simp only [List.cons_append, apartP, Bool.and_eq_true] at h ih2 ⊢
        exact ⟨h.1, ih2 h.2⟩
  cases hc : apartP l with
  | false => rfl
  | true =>
    rw [← List.take_append_drop n l] at hc
    rw [h2 _ _ hc] at h
    cases h
theorem rcheck_l1 (l : List E) (hs : l.length ≤ 4096) (hr : ∀ e ∈ l, rightP e = true) : ∀ d m : Nat, m + 1 + d = l.length → apartP (l.take (m + 1)) = true →
    Ev (fun k => incipitref08_Check.l1 k (toR l) ((m + 1 : Nat) : Int)) (if apartP l = true then 0 else 3) := by
  intro d
  induction d with
  | zero =>
    intro i hi ha
    rw [List.take_of_length_le (by omega)] at ha
    rw [if_pos ha]
    exact Ev_now fun k => by simp only [incipitref08_Check.l1]; rw [if_neg (by rw [toR_len]; omega)]
  | succ d ih =>
    intro m hi ha
    have hrd := toR_rd l (m + 1) (by omega)
    have ht := take_succ_getD l (m + 1) (0, 0) (by omega)
    have hrd2 := toR_rd l m (by omega)
    have ht2 := take_succ_getD l m (0, 0) (by omega)
    have he := (rightP_iff _).1 (hr _ (getD_mem l m (0, 0) (by omega)))
    have hW : wrap64 (((m + 1 : Nat) : Int) - 1) = (m : Int) := by rw [w_id] <;> omega
    have hap : apartP (l.take (m + 1 + 1)) = (apartP (l.take (m + 1)) && !decide ((l.getD m (0, 0)).1 + (l.getD m (0, 0)).2 = (l.getD (m + 1) (0, 0)).1)) := by
      rw [ht, ht2, apart_snoc]
    generalize l.getD m (0, 0) = e at *
    generalize l.getD (m + 1) (0, 0) = f at *
    by_cases hj : e.1 + e.2 = f.1
    · rw [apart_take_false l (m + 1 + 1) (by rw [hap]; simp [hj]), if_neg (by decide)]
      refine Ev_now fun k => ?_
      simp only [incipitref08_Check.l1, hW, hrd, hrd2]
      rw [if_pos (by rw [toR_len]; omega), if_pos (by omega), if_pos (by rw [toR_len]; omega), if_pos (by omega), if_pos (by rw [w_id] <;> omega)]
    · refine Ev_to (ih (m + 1) (by omega) ?_) fun k => ?_
      · rw [hap, ha]; simp [hj]
      · simp only [incipitref08_Check.l1, hW, hrd, hrd2]
        rw [if_pos (by rw [toR_len]; omega), if_pos (by omega), if_pos (by rw [toR_len]; omega), if_pos (by omega), if_neg (by rw [w_id] <;> omega), w_succ (m + 1) (by omega)]
theorem rcheck_l0 (l : List E) (hs : l.length ≤ 4096) (hk : ∀ e ∈ l, InK .i64 e.1) : ∀ d i : Nat, i + d = l.length → (∀ e ∈ l.take i, rightP e = true) →
    Ev (fun k => incipitref08_Check.l0 k (toR l) (sumC (l.take i)) (i : Int)) (chk l) := by
  intro d
  induction d with
  | zero =>
    intro i hi hr
    rw [List.take_of_length_le (by omega)] at hr ⊢
    have hb := sumC_bound l hr
    have hany : l.any (fun e => !rightP e) = false := by rw [List.any_eq_false]; intro x hx; simp [hr x hx]
    unfold chk
    rw [hany, if_neg (by decide)]
    by_cases hl : 1024 < sumC l
    · rw [if_pos hl]
      exact Ev_now fun k => by simp only [incipitref08_Check.l0]; rw [if_neg (by rw [toR_len]; omega), if_pos (by omega)]
    · rw [if_neg hl]
      have ha := rall_f l hs hr
      have hlen := allP_len l hr
      have hm := allP_mem l hr
      have ht := twice (allP l) (by omega) fun x hx => by have := hm x hx; unfold pageIn at this; simp at this; omega
      by_cases hn : (allP l).Nodup
      · rw [decide_eq_true hn] at ht
        rw [if_pos hn]
        have h1 : Ev (fun k => incipitref08_Check.l1 k (toR l) 1) (if apartP l = true then 0 else 3) := by
          rcases Nat.eq_zero_or_pos l.length with h0 | h0
          · have e0 : l = [] := List.eq_nil_of_length_eq_zero h0
            subst e0
            exact Ev_now fun k => by simp only [incipitref08_Check.l1]; rw [if_neg (by simp [toR])]; rfl
          · have := rcheck_l1 l hs hr (l.length - 1) 0 (by omega) (by
              rw [take_succ_getD l 0 (0, 0) h0]; rfl)
            exact this
        refine Ev_to (Ev.bind ha (f := fun k t => (incipitref08_Twice.f k t).bind fun t266 => if t266 = true then some 8 else incipitref08_Check.l1 k (toR l) 1) (Ev.bind ht ?_)) fun k => ?_
        · exact Ev_as h1 fun k => by simp
        · simp only [incipitref08_Check.l0]
          rw [if_neg (by rw [toR_len]; omega), if_neg (by omega)]
      · rw [decide_eq_false hn] at ht
        rw [if_neg hn]
        refine Ev_to (Ev.bind ha (f := fun k t => (incipitref08_Twice.f k t).bind fun t266 => if t266 = true then some 8 else incipitref08_Check.l1 k (toR l) 1) (Ev.bind ht (Ev_eq fun k => by simp))) fun k => ?_
        simp only [incipitref08_Check.l0]
        rw [if_neg (by rw [toR_len]; omega), if_neg (by omega)]
  | succ d ih =>
    intro i hi hr
    have hrd := toR_rd l i (by omega)
    have ht := take_succ_getD l i (0, 0) (by omega)
    have hm := getD_mem l i (0, 0) (by omega)
    have hb := sumC_bound _ hr
    have hlt : (l.take i).length ≤ 4096 := by rw [List.length_take]; omega
    generalize l.getD i (0, 0) = e at *
    have hk1 := (hk e hm).i64
    have hbad : rightP e = false → chk l = 10 := fun h => by
      unfold chk
      rw [if_pos (List.any_eq_true.2 ⟨e, hm, by simp [h]⟩)]
    have hnr : ¬ (2 ≤ e.1 ∧ 1 ≤ e.2 ∧ e.1 < 2048 ∧ e.2 ≤ 2048 - e.1) → chk l = 10 := fun h => hbad (by
      cases hc : rightP e with
      | false => rfl
      | true => exact absurd ((rightP_iff e).1 hc) h)
    by_cases h1 : e.1 < 2
    · rw [hnr (by omega)]
      exact Ev_now fun k => by simp only [incipitref08_Check.l0, hrd]; rw [if_pos (by rw [toR_len]; omega), if_pos (by omega), if_pos h1]
    by_cases h2 : e.1 > 2047
    · rw [hnr (by omega)]
      exact Ev_now fun k => by simp only [incipitref08_Check.l0, hrd]; rw [if_pos (by rw [toR_len]; omega), if_pos (by omega), if_neg h1, if_pos h2]
    by_cases h3 : e.2 < 1
    · rw [hnr (by omega)]
      exact Ev_now fun k => by simp only [incipitref08_Check.l0, hrd]; rw [if_pos (by rw [toR_len]; omega), if_pos (by omega), if_neg h1, if_neg h2, if_pos h3]
    by_cases h4 : e.2 > 2048 - e.1
    · rw [hnr (by omega)]
      exact Ev_now fun k => by simp only [incipitref08_Check.l0, hrd]; rw [if_pos (by rw [toR_len]; omega), if_pos (by omega), if_neg h1, if_neg h2, if_neg h3, if_pos (by rw [w_id] <;> omega)]
    · refine Ev_to (ih (i + 1) (by omega) ?_) fun k => ?_
      · rw [ht]; intro x hx
        rcases List.mem_append.1 hx with h | h
        · exact hr x h
        · rw [List.mem_singleton.1 h, rightP_iff]; omega
      · simp only [incipitref08_Check.l0, hrd]
        rw [if_pos (by rw [toR_len]; omega), if_pos (by omega), if_neg h1, if_neg h2, if_neg h3, if_neg (by rw [w_id] <;> omega), w_succ i (by omega), ht, sumC_snoc, w_id (by omega) (by omega)]
theorem rcheck_f (l : List E) (hs : l.length ≤ 4096) (hk : ∀ e ∈ l, InK .i64 e.1) : Ev (fun k => incipitref08_Check.f k (toR l)) (chk l) := by
  have := rcheck_l0 l hs hk l.length 0 (by omega) (by simp)
  exact Ev_as this fun k => by unfold incipitref08_Check.f; rfl
theorem chk_right (l : List E) (h : chk l = 0) : (∀ e ∈ l, rightP e = true) ∧ sumC l ≤ 1024 ∧ (allP l).Nodup := by
  unfold chk at h
  split at h
  · cases h
  · rename_i h1
    split at h
    · cases h
    · rename_i h2
      split at h
      · rename_i h3
        refine ⟨fun e he => ?_, by omega, h3⟩
        cases hc : rightP e with
        | true => rfl
        | false => exact absurd (List.any_eq_true.2 ⟨e, he, by simp [hc]⟩) h1
      · cases h

/-! ### At, Find, Part -/
def atS (l : List E) (i : Int) : Int × Int := if chk l = 0 then (if 0 ≤ i ∧ i < (allP l).length then ((allP l).getD i.toNat 0, 0) else (0, 10)) else (0, chk l)
theorem at_f (l : List E) (hs : l.length ≤ 4096) (hk : ∀ e ∈ l, InK .i64 e.1) (i : Int) : Ev (fun k => extent_At.f k (toE l) i) (atS l i) := by
  refine Ev_as (Ev.bind (check_f l hs hk) (f := fun k t270 => (if t270 = 0 then ((extent_all.f k (toE l)).bind fun t271 => (if i < 0 then (some ((0 : Int), (10 : Int))) else (if i ≥ (t271.length : Int) then (some (0, 10)) else (if 0 ≤ i then (if i < (t271.length : Int) then (some (rd t271 i, 0)) else (none)) else (none))))) else (some (0, t270)))) ?_) fun k => rfl
  unfold atS
  by_cases h : chk l = 0
  · rw [if_pos h]
    refine Ev_as (Ev.bind (all_f l hs (chk_right l h).1) (f := fun k t271 => (if i < 0 then (some ((0 : Int), (10 : Int))) else (if i ≥ (t271.length : Int) then (some (0, 10)) else (if 0 ≤ i then (if i < (t271.length : Int) then (some (rd t271 i, 0)) else (none)) else (none))))) (Ev_eq fun k => ?_)) fun k => by rw [if_pos h]
    by_cases h1 : i < 0
    · rw [if_pos h1, if_neg (by omega)]
    · rw [if_neg h1]
      by_cases h2 : i ≥ ((allP l).length : Int)
      · rw [if_pos h2, if_neg (by omega)]
      · rw [if_neg h2, if_pos (by omega), if_pos (by omega), if_pos (by omega)]
        rfl
  · rw [if_neg h]
    exact Ev_eq fun k => by rw [if_neg h]
/-- Where a number stands first. -/
structure Idx (l : List Int) (a r : Int) : Prop where mk ::
  out : (∃ j : Nat, j < l.length ∧ r = (j : Int) ∧ l.getD j 0 = a) ∨ (r = -1 ∧ ¬ a ∈ l)
theorem index_l (l : List Int) (hs : l.length ≤ 1000000000) (a : Int) : ∀ d i : Nat, i + d = l.length → (∀ j, j < i → l.getD j 0 ≠ a) → ∃ r, Ev (fun k => slices_Index_int_int.l0 k l a (l.length : Int) (i : Int)) r ∧ Idx l a r := by
  intro d
  induction d with
  | zero =>
    intro i hi hj
    refine ⟨-1, Ev_now fun k => by simp only [slices_Index_int_int.l0]; rw [if_neg (by omega)], ⟨.inr ⟨rfl, fun hm => ?_⟩⟩⟩
    obtain ⟨j, hj2, rfl⟩ := List.mem_iff_getElem.1 hm
    exact hj j (by omega) (getD_lt l j 0 hj2)
  | succ d ih =>
    intro i hi hj
    by_cases e : a = l.getD i 0
    · exact ⟨i, Ev_now fun k => by simp only [slices_Index_int_int.l0]; rw [if_pos (by omega), if_pos (by omega), if_pos (by omega), if_pos (by rw [rd_nat]; exact e)], ⟨.inl ⟨i, by omega, rfl, e.symm⟩⟩⟩
    · obtain ⟨r, h1, h2⟩ := ih (i + 1) (by omega) fun j hj2 => by
        rcases Nat.lt_or_ge j i with h | h
        · exact hj j h
        · rw [show j = i by omega]; exact fun h => e h.symm
      exact ⟨r, Ev_to h1 fun k => by simp only [slices_Index_int_int.l0]; rw [if_pos (by omega), if_pos (by omega), if_pos (by omega), if_neg (by rw [rd_nat]; exact e), w_succ i (by omega)], h2⟩
theorem index_f (l : List Int) (hs : l.length ≤ 1000000000) (a : Int) : ∃ r, Ev (fun k => slices_Index_int_int.f k l a) r ∧ Idx l a r := by
  obtain ⟨r, h1, h2⟩ := index_l l hs a l.length 0 (by omega) (fun j hj => by omega)
  exact ⟨r, Ev_as h1 fun k => by unfold slices_Index_int_int.f; rfl, h2⟩
theorem find_f (l : List E) (hs : l.length ≤ 4096) (hk : ∀ e ∈ l, InK .i64 e.1) (h : chk l = 0) (a : Int) : ∃ r, Ev (fun k => extent_Find.f k (toE l) a) (if r < 0 then (0, 7) else (r, 0)) ∧ Idx (allP l) a r := by
  have hr := chk_right l h
  have hlen := allP_len l hr.1
  obtain ⟨r, h1, h2⟩ := index_f (allP l) (by omega) a
  refine ⟨r, Ev_as (Ev.bind (check_f l hs hk) (f := fun k t276 => (if t276 = 0 then ((extent_all.f k (toE l)).bind fun t277 => ((slices_Index_int_int.f k t277 a).bind fun t280 => (if t280 < 0 then (some ((0 : Int), (7 : Int))) else (some (t280, 0))))) else (some (0, t276)))) ?_) fun k => rfl, h2⟩
  rw [h]
  refine Ev_as (Ev.bind (all_f l hs hr.1) (f := fun k t277 => (slices_Index_int_int.f k t277 a).bind fun t280 => (if t280 < 0 then (some ((0 : Int), (7 : Int))) else (some (t280, 0)))) (Ev.bind h1 (Ev_eq fun k => ?_))) fun k => by rw [if_pos rfl]
  by_cases h3 : r < 0
  · rw [if_pos h3, if_pos h3]
  · rw [if_neg h3, if_neg h3]
theorem find_bad (l : List E) (hs : l.length ≤ 4096) (hk : ∀ e ∈ l, InK .i64 e.1) (h : ¬ chk l = 0) (a : Int) : Ev (fun k => extent_Find.f k (toE l) a) (0, chk l) := by
  refine Ev_as (Ev.bind (check_f l hs hk) (f := fun k t276 => (if t276 = 0 then ((extent_all.f k (toE l)).bind fun t277 => ((slices_Index_int_int.f k t277 a).bind fun t280 => (if t280 < 0 then (some ((0 : Int), (7 : Int))) else (some (t280, 0))))) else (some (0, t276)))) (Ev_eq fun k => ?_)) fun k => rfl
  rw [if_neg h]
def cutP (l : List E) (a b : Int) : List Int := ((allP l).take b.toNat).drop a.toNat
def partS (l : List E) (a b : Int) : List S107 × Int := if chk l = 0 then (if a < 0 ∨ ((allP l).length : Int) < b ∨ b < a then ([], 10) else (toE (G (cutP l a b)), 0)) else ([], chk l)
theorem cut_ok (l : List E) (h : chk l = 0) (a b : Int) : pagesErr (cutP l a b) = 0 ∧ ∀ x ∈ cutP l a b, InK .i64 x := by
  have hr := chk_right l h
  have hlen := allP_len l hr.1
  have hm := allP_mem l hr.1
  have hsub : ∀ x ∈ cutP l a b, x ∈ allP l := fun x hx => List.mem_of_mem_take (List.mem_of_mem_drop hx)
  have hnd : (cutP l a b).Nodup := hr.2.2.sublist ((List.drop_sublist _ _).trans (List.take_sublist _ _))
  have hl : (cutP l a b).length ≤ (allP l).length := ((List.drop_sublist _ _).trans (List.take_sublist _ _)).length_le
  constructor
  · unfold pagesErr
    rw [if_neg (by simp only [List.any_eq_true, not_exists, not_and]; intro x hx; simp [hm x (hsub x hx)]), if_neg (by omega), if_pos hnd]
  · intro x hx
    have := hm x (hsub x hx)
    unfold pageIn at this
    simp only [Bool.and_eq_true, decide_eq_true_eq] at this
    exact InK.of_i64 (by omega) (by omega)
theorem part_f (l : List E) (hs : l.length ≤ 4096) (hk : ∀ e ∈ l, InK .i64 e.1) (a b : Int) : Ev (fun k => extent_Part.f k (toE l) a b) (partS l a b) := by
  refine Ev_as (Ev.bind (check_f l hs hk) (f := fun k e => if e = 0 then (extent_all.f k (toE l)).bind fun p => if a < 0 then some ([], 10) else if (p.length : Int) < b then some ([], 10) else if b < a then some ([], 10) else if inKs .i64 p = true then extent_Of.f k ((p.take b.toNat).drop a.toNat) else none else some ([], e)) ?_) fun k => rfl
  unfold partS
  by_cases h : chk l = 0
  · rw [if_pos h]
    have hr := chk_right l h
    have hm := allP_mem l hr.1
    have hin : inKs .i64 (allP l) = true := inKs_mk fun x hx => by
      have := hm x hx
      unfold pageIn at this
      simp only [Bool.and_eq_true, decide_eq_true_eq] at this
      exact InK.of_i64 (by omega) (by omega)
    refine Ev_as (Ev.bind (all_f l hs hr.1) (f := fun k p => if a < 0 then some ([], 10) else if (p.length : Int) < b then some ([], 10) else if b < a then some ([], 10) else if inKs .i64 p = true then extent_Of.f k ((p.take b.toNat).drop a.toNat) else none) ?_) fun k => by rw [if_pos h]
    by_cases h1 : a < 0
    · rw [if_pos (.inl h1)]; exact Ev_eq fun k => by rw [if_pos h1]
    by_cases h2 : ((allP l).length : Int) < b
    · rw [if_pos (.inr (.inl h2))]; exact Ev_eq fun k => by rw [if_neg h1, if_pos h2]
    by_cases h3 : b < a
    · rw [if_pos (.inr (.inr h3))]; exact Ev_eq fun k => by rw [if_neg h1, if_neg h2, if_pos h3]
    · rw [if_neg (by omega)]
      obtain ⟨hp, hi⟩ := cut_ok l h a b
      have := Of_f (cutP l a b) hi
      rw [if_pos hp] at this
      exact Ev_as this fun k => by rw [if_neg h1, if_neg h2, if_neg h3, if_pos hin]; rfl
  · rw [if_neg h]
    exact Ev_eq fun k => by rw [if_neg h]
end Go.Proofs.Ytneliajeokajbaa.ExtPure
