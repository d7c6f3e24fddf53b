/- Layer 8: the pure side: all, Check, Pages, Count; ExtentOf. -/
import Derived.Test.YtneliajeokajbaaExtPure2
namespace Go.Proofs.Ytneliajeokajbaa.ExtPure
open Go.RowKit Go.Proofs.Ytneliajeokajbaa Go.Proofs.Ytneliajeokajbaa.PExt Go.Proofs.YtneliajeokajbaaW.PrintWords Go.Proofs.YtneliajeokajbaaW.PrintMore
set_option linter.unusedVariables false
theorem allP_cons (e : E) (es : List E) : allP (e :: es) = ((List.range e.2.toNat).map fun j : Nat => e.1 + (j : Int)) ++ allP es := by unfold allP; simp
theorem sumC_cons (e : E) (es : List E) : sumC (e :: es) = e.2 + sumC es := by unfold sumC; simp
theorem allP_len (es : List E) (h : ∀ e ∈ es, rightP e = true) : ((allP es).length : Int) = sumC es := by
  induction es with
  | nil => rfl
  | cons e es ih =>
    have he := (rightP_iff e).1 (h e (by simp))
    rw [allP_cons, sumC_cons, List.length_append, List.length_map, List.length_range]
    have := ih fun f hf => h f (by simp [hf])
    omega
theorem sumC_bound (es : List E) (h : ∀ e ∈ es, rightP e = true) : 0 ≤ sumC es ∧ sumC es ≤ 2048 * es.length := by
  induction es with
  | nil => exact ⟨Int.le_refl _, Int.le_refl _⟩
  | cons e es ih =>
    have he := (rightP_iff e).1 (h e (by simp))
    have := ih fun f hf => h f (by simp [hf])
    rw [sumC_cons, List.length_cons]
    omega
theorem allP_mem (es : List E) (h : ∀ e ∈ es, rightP e = true) : ∀ x ∈ allP es, pageIn x = true := by
  intro x hx
  unfold allP at hx
  obtain ⟨e, he, hx⟩ := List.mem_flatMap.1 hx
  obtain ⟨j, hj, rfl⟩ := List.mem_map.1 hx
  have h1 := (rightP_iff e).1 (h e he)
  have h2 := List.mem_range.1 hj
  unfold pageIn
  simp only [Bool.and_eq_true, decide_eq_true_eq]
  omega
/-- all: the outer and the inner loop. -/
theorem all_l1 (l : List E) (hs : l.length ≤ 4096) (i : Nat) (hi : i < l.length) (f : Int) (c : Nat) (c2 : Int) (hf : 0 ≤ f ∧ f ≤ 4096) (hc : c ≤ 2048)
    (hrest : ∀ acc, acc.length + (allP (l.drop (i + 1))).length ≤ 1000000000 → Ev (fun k => extent_all.l0 k acc (toE l) (l.length : Int) ((i + 1 : Nat) : Int)) (acc ++ allP (l.drop (i + 1)))) : ∀ (d j : Nat) (acc : List Int), j + d = c → acc.length + d + (allP (l.drop (i + 1))).length ≤ 1000000000 →
    Ev (fun k => extent_all.l1 k acc (toE l) (l.length : Int) (i : Int) (c : Int) (j : Int) f c2) (acc ++ ((List.range c).drop j).map (fun j : Nat => f + (j : Int)) ++ allP (l.drop (i + 1))) := by
  intro d
  induction d with
  | zero =>
    intro j acc hj hl
    rw [List.drop_of_length_le (by rw [List.length_range]; omega), List.map_nil, List.append_nil]
    exact Ev_to (hrest acc (by omega)) fun k => by simp only [extent_all.l1]; rw [if_neg (by omega), w_succ i (by omega)]
  | succ d ih =>
    intro j acc hj hl
    have hn := ih (j + 1) (acc ++ [f + (j : Int)]) (by omega) (by simp; omega)
    rw [show ((List.range c).drop j).map (fun j : Nat => f + (j : Int)) = (f + (j : Int)) :: ((List.range c).drop (j + 1)).map (fun j : Nat => f + (j : Int)) by
      rw [drop_cons (List.range c) j 0 (by rw [List.length_range]; omega), List.map_cons]
      simp [List.getD_eq_getElem?_getD, show j < c by omega]]
    rw [List.append_assoc acc [_], List.singleton_append] at hn
    exact Ev_to hn fun k => by
      simp only [extent_all.l1]
      rw [if_pos (by omega), if_pos (by omega), w_id (by omega) (by omega), w_succ j (by omega)]
theorem all_l0 (l : List E) (hs : l.length ≤ 4096) (hr : ∀ e ∈ l, rightP e = true) : ∀ (d i : Nat) (acc : List Int), i + d = l.length → acc.length + (allP (l.drop i)).length ≤ 1000000000 →
    Ev (fun k => extent_all.l0 k acc (toE l) (l.length : Int) (i : Int)) (acc ++ allP (l.drop i)) := by
  intro d
  induction d with
  | zero =>
    intro i acc hi hl
    rw [List.drop_of_length_le (by omega)]
    simp only [allP, List.flatMap_nil, List.append_nil]
    exact Ev_now fun k => by simp only [extent_all.l0]; rw [if_neg (by omega)]
  | succ d ih =>
    intro i acc hi hl
    have he := (rightP_iff _).1 (hr _ (getD_mem l i (0, 0) (by omega)))
    rw [drop_cons l i (0, 0) (by omega), allP_cons] at hl ⊢
    have hrd := toE_rd l i (by omega)
    generalize l.getD i (0, 0) = e at *
    obtain ⟨n, hn⟩ := Int.eq_ofNat_of_zero_le (show 0 ≤ e.2 by omega)
    rw [List.length_append, List.length_map, List.length_range] at hl
    have h1 := all_l1 l hs i (by omega) e.1 n (n : Int) (by omega) (by omega) (fun acc' h' => ih (i + 1) acc' (by omega) h') n 0 acc (by omega) (by omega)
    rw [List.drop_zero] at h1
    rw [← List.append_assoc, hn, Int.toNat_natCast]
    exact Ev_to h1 fun k => by
      simp only [extent_all.l0, hrd]
      rw [if_pos (by omega), if_pos (by omega), if_pos (by rw [toE_len]; omega), hn]
      rfl
theorem all_f (l : List E) (hs : l.length ≤ 4096) (hr : ∀ e ∈ l, rightP e = true) : Ev (fun k => extent_all.f k (toE l)) (allP l) := by
  have hb := sumC_bound l hr
  have hl := allP_len l hr
  have := all_l0 l hs hr l.length 0 [] (by omega) (by rw [List.drop_zero]; simp only [List.length_nil]; omega)
  rw [List.drop_zero, List.nil_append] at this
  exact Ev_as this fun k => by unfold extent_all.f; rw [toE_len]; rfl

/-! ### Check -/
def chk (es : List E) : Int := if es.any (fun e => !rightP e) then 10 else if 1024 < sumC es then 2 else if (allP es).Nodup then (if apartP es then 0 else 3) else 8
theorem right_f (e : E) (he : -9223372036854775808 ≤ e.1) : extent_Extent_right.f e.1 e.2 = some (rightP e) := by
  unfold extent_Extent_right.f rightP
  by_cases h1 : e.1 ≥ 2
  · rw [if_pos h1, decide_eq_true (show (2 : Int) ≤ e.1 from h1), Bool.true_and]
    by_cases h2 : e.2 ≥ 1
    · rw [if_pos h2, decide_eq_true (show (1 : Int) ≤ e.2 from h2), Bool.true_and]
      by_cases h3 : e.1 < 2048
      · rw [if_pos h3, decide_eq_true h3, Bool.true_and, w_id (by omega) (by omega)]
      · rw [if_neg h3, decide_eq_false h3, Bool.false_and]
    · rw [if_neg h2, decide_eq_false (show ¬ (1 : Int) ≤ e.2 from h2), Bool.false_and, Bool.false_and]
  · rw [if_neg h1, decide_eq_false (show ¬ (2 : Int) ≤ e.1 from h1), Bool.false_and, Bool.false_and, Bool.false_and]
theorem check_l1 (l : List E) (hs : l.length ≤ 4096) (hr : ∀ e ∈ l, rightP e = true) : ∀ d i : Nat, i + d = l.length → apartP (l.take i) = true →
    Ev (fun k => extent_Check.l1 k (toE l) (toE l) (l.length : Int) (i : Int)) (if apartP l = true then 0 else 3) := by
  intro d
  induction d with
  | zero =>
    intro i hi ha
    rw [List.take_of_length_le (by omega)] at ha
    rw [if_pos ha]
    exact Ev_now fun k => by simp only [extent_Check.l1]; rw [if_neg (by omega)]
  | succ d ih =>
    intro i hi ha
    have hrd := toE_rd l i (by omega)
    have ht := take_succ_getD l i (0, 0) (by omega)
    rcases Nat.eq_zero_or_pos i with h0 | h0
    · subst h0
      refine Ev_to (ih 1 (by omega) ?_) fun k => ?_
      · rw [ht]; rfl
      · simp only [extent_Check.l1]
        rw [if_pos (by omega), if_pos (by omega), if_pos (by rw [toE_len]; omega), if_neg (by omega), w_succ 0 (by omega)]
    · obtain ⟨m, rfl⟩ : ∃ m, i = m + 1 := ⟨i - 1, by omega⟩
      have hrd2 := toE_rd l m (by omega)
      have ht2 := take_succ_getD l m (0, 0) (by omega)
      have he := (rightP_iff _).1 (hr _ (getD_mem l m (0, 0) (by omega)))
      have hW : wrap64 (((m + 1 : Nat) : Int) - 1) = (m : Int) := by rw [w_id] <;> omega
      have hap : apartP (l.take (m + 1 + 1)) = (apartP (l.take (m + 1)) && !decide ((l.getD m (0, 0)).1 + (l.getD m (0, 0)).2 = (l.getD (m + 1) (0, 0)).1)) := by
        rw [ht, ht2, apart_snoc]
      generalize l.getD m (0, 0) = e at *
      generalize l.getD (m + 1) (0, 0) = f at *
      by_cases hj : e.1 + e.2 = f.1
      · have hna : apartP l = false := by
          have h1 : apartP (l.take (m + 1 + 1)) = false := by rw [hap]; simp [hj]
          have h2 : ∀ (a b : List E), apartP (a ++ b) = true → apartP a = true := by
            intro a b
            induction a with
            | nil => intro _; rfl
            | cons x a ih2 =>
              cases a with
              | nil => intro _; rfl
              | cons y a =>
                intro h
                simp only [List.cons_append, apartP, Bool.and_eq_true] at h ih2 ⊢
                exact ⟨h.1, ih2 h.2⟩
          cases hc : apartP l with
          | false => rfl
          | true =>
            rw [← List.take_append_drop (m + 1 + 1) l] at hc
            rw [h2 _ _ hc] at h1
            cases h1
        rw [hna, if_neg (by decide)]
        refine Ev_now fun k => ?_
        simp only [extent_Check.l1, hW, hrd, hrd2]
        rw [if_pos (by omega), if_pos (by omega), if_pos (by rw [toE_len]; omega), if_pos (by omega), if_pos (by omega), if_pos (by rw [toE_len]; omega)]
        unfold extent_Extent_end.f
        simp only [Option.bind_some]
        rw [if_pos (by rw [w_id] <;> omega)]
      · refine Ev_to (ih (m + 1 + 1) (by omega) ?_) fun k => ?_
        · rw [hap, ha]; simp [hj]
        · simp only [extent_Check.l1, hW, hrd, hrd2]
          rw [if_pos (by omega), if_pos (by omega), if_pos (by rw [toE_len]; omega), if_pos (by omega), if_pos (by omega), if_pos (by rw [toE_len]; omega)]
          unfold extent_Extent_end.f
          simp only [Option.bind_some]
          rw [if_neg (by rw [w_id] <;> omega), w_succ (m + 1) (by omega)]
theorem pages_all (l : List E) (hr : ∀ e ∈ l, rightP e = true) (hs : sumC l ≤ 1024) : extent_pages.f (allP l) = some (if (allP l).Nodup then 0 else 8) := by
  have hm := allP_mem l hr
  have hl := allP_len l hr
  unfold extent_pages.f
  rw [if_pos (inKs_mk fun x hx => by
    have := hm x hx
    unfold pageIn at this
    simp only [Bool.and_eq_true, decide_eq_true_eq] at this
    exact InK.of_i64 (by omega) (by omega))]
  unfold pagesErr
  rw [if_neg (by simp only [List.any_eq_true, not_exists, not_and]; intro x hx; simp [hm x hx]), if_neg (by omega)]
theorem check_l0 (l : List E) (hs : l.length ≤ 4096) (hk : ∀ e ∈ l, InK .i64 e.1) : ∀ d i : Nat, i + d = l.length → (∀ e ∈ l.take i, rightP e = true) →
    Ev (fun k => extent_Check.l0 k (toE l) (min (sumC (l.take i)) 1025) (toE l) (l.length : Int) (i : Int)) (chk l) := by
  intro d
  induction d with
  | zero =>
    intro i hi hr
    rw [List.take_of_length_le (by omega)] at hr ⊢
    have hb := sumC_bound l hr
    have hany : l.any (fun e => !rightP e) = false := by rw [List.any_eq_false]; intro x hx; simp [hr x hx]
    unfold chk
    rw [hany, if_neg (by decide)]
    by_cases hl : 1024 < sumC l
    · rw [if_pos hl]
      exact Ev_now fun k => by simp only [extent_Check.l0]; rw [if_neg (by omega), if_pos (by omega)]
    · rw [if_neg hl]
      have ha := all_f l hs hr
      have hp := pages_all l hr (by omega)
      by_cases hn : (allP l).Nodup
      · rw [if_pos hn] at hp ⊢
        have h1 := check_l1 l hs hr l.length 0 (by omega) rfl
        refine Ev_to (Ev.bind ha (f := fun k t => (extent_pages.f t).bind fun t157 => if t157 = 0 then extent_Check.l1 k (toE l) (toE l) (l.length : Int) 0 else some t157) (Ev_as h1 fun k => by rw [hp]; rfl)) fun k => ?_
        simp only [extent_Check.l0]
        rw [if_neg (by omega), if_neg (by omega), toE_len]
      · rw [if_neg hn] at hp ⊢
        refine Ev_to (Ev.bind ha (f := fun k t => (extent_pages.f t).bind fun t157 => if t157 = 0 then extent_Check.l1 k (toE l) (toE l) (l.length : Int) 0 else some t157) (Ev_eq fun k => by rw [hp]; rfl)) fun k => ?_
        simp only [extent_Check.l0]
        rw [if_neg (by omega), if_neg (by omega), toE_len]
  | succ d ih =>
    intro i hi hr
    have hrd := toE_rd l i (by omega)
    have ht := take_succ_getD l i (0, 0) (by omega)
    have hm := getD_mem l i (0, 0) (by omega)
    have hb := sumC_bound _ hr
    have hlt : (l.take i).length ≤ 4096 := by rw [List.length_take]; omega
    generalize l.getD i (0, 0) = e at *
    have hrf := right_f e (hk e hm).i64.1
    cases hre : rightP e with
    | true =>
      have he := (rightP_iff e).1 hre
      rw [hre] at hrf
      refine Ev_to (ih (i + 1) (by omega) ?_) fun k => ?_
      · rw [ht]; intro x hx
        rcases List.mem_append.1 hx with h | h
        · exact hr x h
        · rw [List.mem_singleton.1 h]; exact hre
      · simp only [extent_Check.l0, hrd, hrf, Option.bind_some]
        rw [if_pos (by omega), if_pos (by omega), if_pos (by rw [toE_len]; omega), if_pos trivial, w_succ i (by omega), ht, sumC_snoc]
        congr 1
        unfold mn
        rw [w_id (by omega) (by omega)]
        split <;> omega
    | false =>
      have he : chk l = 10 := by
        unfold chk
        rw [if_pos (List.any_eq_true.2 ⟨e, hm, by simp [hre]⟩)]
      rw [hre] at hrf
      rw [he]
      refine Ev_now fun k => ?_
      simp only [extent_Check.l0, hrd, hrf, Option.bind_some]
      rw [if_pos (by omega), if_pos (by omega), if_pos (by rw [toE_len]; omega), if_neg (by decide)]
theorem check_f (l : List E) (hs : l.length ≤ 4096) (hk : ∀ e ∈ l, InK .i64 e.1) : Ev (fun k => extent_Check.f k (toE l)) (chk l) := by
  have := check_l0 l hs hk l.length 0 (by omega) (by simp)
  exact Ev_as this fun k => by unfold extent_Check.f; rw [toE_len]; rfl
theorem pages_f (l : List E) (hs : l.length ≤ 4096) (hk : ∀ e ∈ l, InK .i64 e.1) : Ev (fun k => extent_Pages.f k (toE l)) (if chk l = 0 then allP l else []) := by
  refine Ev_as (Ev.bind (check_f l hs hk) (f := fun k t => if t = 0 then (extent_all.f k (toE l)).bind fun t221 => some t221 else some []) ?_) fun k => rfl
  by_cases h : chk l = 0
  · rw [if_pos h]
    have hr : ∀ e ∈ l, rightP e = true := by
      unfold chk at h
      split at h
      · cases h
      · rename_i h1
        intro e he
        cases hc : rightP e with
        | true => rfl
        | false => exact absurd (List.any_eq_true.2 ⟨e, he, by simp [hc]⟩) h1
    exact Ev_as (Ev.bind (all_f l hs hr) (f := fun k t => some t) (Ev.now _)) fun k => by rw [if_pos h]
  · rw [if_neg h]
    exact Ev_eq fun k => by rw [if_neg h]
theorem count_f (l : List E) (hs : l.length ≤ 4096) (hk : ∀ e ∈ l, InK .i64 e.1) : Ev (fun k => extent_Count.f k (toE l)) (if chk l = 0 then ((allP l).length : Int) else 0) := by
  refine Ev_as (Ev.bind (pages_f l hs hk) (f := fun k t => some (t.length : Int)) (Ev_eq fun k => ?_)) fun k => rfl
  by_cases h : chk l = 0
  · rw [if_pos h, if_pos h]
  · rw [if_neg h, if_neg h]; rfl

theorem known8 : Ev (fun k => incipitlaw08_known.f k) true := Ev.of (fun k => incipitlaw08_known.mono k) (k := 60) (by kernel_rfl)
theorem chk_G (l : List Int) (h : pagesErr l = 0) : chk (G l) = 0 ∧ allP (G l) = l := by
  obtain ⟨h1, h2, h3⟩ := pagesErr_zero l h
  have hk := G_ok l h1
  refine ⟨?_, hk.all⟩
  unfold chk
  rw [if_neg (by simp only [List.any_eq_true, not_exists, not_and]; intro e he; simp [hk.right e he]), if_neg (by rw [hk.sum]; omega), hk.all, if_pos h3, if_pos hk.apart]
theorem ExtentOf : incipitlaw08_ExtentOf.Pure := by
  intro l hm h8 hk
  refine Ev.rounds ?_
  have hcut : l.take (mn (l.length : Int) 1100).toNat = l.take 1100 := take_mn l 1100
  have hlt : (l.take 1100).length ≤ 1100 := by rw [List.length_take]; omega
  have hk2 : ∀ x ∈ l.take 1100, InK .i64 x := fun x hx => ⟨hk x (List.mem_of_mem_take hx)⟩
  refine Ev_as (f := fun k => (extent_Of.f k (l.take 1100)).bind fun bt228 => ((incipitref08_Of.f k (l.take 1100)).bind fun bt232 => (if bt228.2 = bt232.2 then ((incipitlaw08_Of.f k bt228.1).bind fun t236 => ((incipitref08_Same.f k t236 bt232.1).bind fun t239 => (incipitlaw08_ExtentOf.j0 k (l.take 1100) bt228.1 bt232.2 (!t239)))) else (incipitlaw08_ExtentOf.j0 k (l.take 1100) bt228.1 bt232.2 true)))) ?_ fun k => by
    unfold incipitlaw08_ExtentOf.f
    rw [hcut, if_pos (show 0 ≤ mn (l.length : Int) 1100 from mn_nonneg l.length 1100), if_pos (show mn (l.length : Int) 1100 ≤ (l.length : Int) from mn_le l.length 1100)]
  generalize l.take 1100 = p at *
  refine Ev.bind (Of_f p hk2) (Ev.bind (refOf_f p (by omega)) ?_)
  by_cases h0 : pagesErr p = 0
  · simp only [if_pos h0]
    obtain ⟨hc, ha⟩ := chk_G p h0
    obtain ⟨h1, h2, h3⟩ := pagesErr_zero p h0
    have hg := G_ok p h1
    have hgl := hg.len
    have hkG : ∀ e ∈ G p, InK .i64 e.1 := fun e he => by
      have := (rightP_iff e).1 (hg.right e he)
      exact InK.of_i64 (by omega) (by omega)
    refine Ev_as (Ev.bind (law_Of (G p) (by omega)) (f := fun k t => (incipitref08_Same.f k t (toR (G p))).bind fun t239 => (incipitlaw08_ExtentOf.j0 k p (toE (G p)) 0 (!t239))) (Ev.bind (same8 (G p) (G p) (by omega)) ?_)) fun k => rfl
    rw [decide_eq_true rfl]
    refine Ev_to (f := fun k => (incipitlaw08_known.f k).bind fun t240 => (if t240 = true then (if (0 : Int) = 0 then ((extent_Check.f k (toE (G p))).bind fun t241 => (if t241 = 0 then ((extent_Pages.f k (toE (G p))).bind fun t242 => ((incipitref06_Same.f k t242 p).bind fun t245 => (if t245 = true then ((extent_Count.f k (toE (G p))).bind fun t246 => (some (t246 == (p.length : Int)))) else (some false)))) else (some false))) else (some true)) else (some false))) ?_ fun k => by simp only [incipitlaw08_ExtentOf.j0]; rw [if_neg (by decide)]
    refine Ev.bind known8 ?_
    simp only [if_true]
    refine Ev.bind (check_f (G p) (by omega) hkG) ?_
    rw [hc]
    simp only [if_true]
    refine Ev.bind (pages_f (G p) (by omega) hkG) ?_
    rw [if_pos hc, ha]
    refine Ev.bind (same6 p p (by omega)) ?_
    rw [decide_eq_true rfl]
    simp only [if_true]
    refine Ev.bind (count_f (G p) (by omega) hkG) (Ev_eq fun k => ?_)
    rw [if_pos hc, ha]
    simp
  · simp only [if_neg h0]
    refine Ev_as (Ev.bind (law_Of [] (by simp)) (f := fun k t => (incipitref08_Same.f k t (toR [])).bind fun t239 => (incipitlaw08_ExtentOf.j0 k p (toE []) (pagesErr p) (!t239))) (Ev.bind (same8 [] [] (by simp)) ?_)) fun k => rfl
    refine Ev_to (Ev.bind known8 (f := fun k (t240 : Bool) => if t240 = true then some true else some false) (Ev.now _)) fun k => by
      simp only [incipitlaw08_ExtentOf.j0]
      rw [if_neg (by decide)]
      simp only [if_neg h0]
end Go.Proofs.Ytneliajeokajbaa.ExtPure
