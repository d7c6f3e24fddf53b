/- Layer 8: ExtentTells, the pure side. -/
import Derived.Test.YtneliajeokajbaaPExtx10
import Derived.Test.YtneliajeokajbaaExtPure4
namespace Go.Proofs.Ytneliajeokajbaa.ExtPure
open Go.RowKit Go.Proofs.Ytneliajeokajbaa Go.Proofs.Ytneliajeokajbaa.PExt Go.Proofs.YtneliajeokajbaaW.PrintWords Go.Proofs.YtneliajeokajbaaW.PrintMore
set_option linter.unusedVariables false
theorem nodup_at {l : List Int} (h : l.Nodup) {i j : Nat} (hi : i < l.length) (hj : j < l.length) (e : l.getD i 0 = l.getD j 0) : i = j := by
  rw [getD_lt l i 0 hi, getD_lt l j 0 hj] at e
  have hp := List.pairwise_iff_getElem.1 h
  rcases Nat.lt_trichotomy i j with h1 | h1 | h1
  · exact absurd e (hp i j hi hj h1)
  · exact h1
  · exact absurd e.symm (hp j i hj hi h1)
theorem tells_tail (l : List E) (hs : l.length ≤ 30) (hk : ∀ e ∈ l, InK .i64 e.1) (h : chk l = 0) (a1 a2 a3 a4 r : Int) (hr : Idx (allP l) a2 r) :
    Ev (fun k => incipitlaw08_ExtentTells.l0 k a1 a2 a3 a4 (toE l) (atS l a1).1 (atS l a1).2 (if r < 0 then ((0 : Int), (7 : Int)) else (r, 0)).1 (if r < 0 then ((0 : Int), (7 : Int)) else (r, 0)).2 (partS l a3 a4).1 (partS l a3 a4).2 (allP l) r ((allP l).length : Int)) true := by
  have hright := chk_right l h
  have hlen := allP_len l hright.1
  have hj4 : Ev (fun k => incipitlaw08_ExtentTells.j3 k a3 a4 (partS l a3 a4).1 (partS l a3 a4).2 (allP l)) true := by
    have bad : (a3 < 0 ∨ ((allP l).length : Int) < a4 ∨ a4 < a3) → Ev (fun k => incipitlaw08_ExtentTells.j4 k a3 a4 (partS l a3 a4).1 (partS l a3 a4).2 (allP l) true) true := fun hb => by
      have hp : partS l a3 a4 = ([], 10) := by unfold partS; rw [if_pos h, if_pos hb]
      rw [hp]
      refine Ev_to (Ev.bind known8 (f := fun k (t : Bool) => if t = true then some ((10 : Int) == 10) else some false) (Ev_eq fun k => rfl)) fun k => ?_
      simp only [incipitlaw08_ExtentTells.j4]
      rw [if_pos trivial]
    by_cases h1 : a3 < 0
    · exact Ev_to (bad (.inl h1)) fun k => by simp only [incipitlaw08_ExtentTells.j3]; rw [if_pos h1]
    by_cases h2 : a4 > ((allP l).length : Int)
    · exact Ev_to (bad (.inr (.inl h2))) fun k => by simp only [incipitlaw08_ExtentTells.j3]; rw [if_neg h1, if_pos h2]
    by_cases h3 : a3 > a4
    · exact Ev_to (bad (.inr (.inr h3))) fun k => by simp only [incipitlaw08_ExtentTells.j3]; rw [if_neg h1, if_neg h2, decide_eq_true h3]
    · have hp : partS l a3 a4 = (toE (G (cutP l a3 a4)), 0) := by unfold partS; rw [if_pos h, if_neg (by omega)]
      obtain ⟨hc, hi⟩ := cut_ok l h a3 a4
      have hle : (cutP l a3 a4).length ≤ 1024 := (pagesErr_zero _ hc).2.1
      have hro := refOf_f (cutP l a3 a4) (by omega)
      rw [if_pos hc] at hro
      have hgl := (G_ok _ (pagesErr_zero _ hc).1).len
      rw [hp]
      refine Ev_to (f := fun k => incipitlaw08_ExtentTells.j4 k a3 a4 (toE (G (cutP l a3 a4))) 0 (allP l) false) ?_ fun k => by
        simp only [incipitlaw08_ExtentTells.j3]; rw [if_neg h1, if_neg h2, decide_eq_false h3]
      refine Ev_to (Ev.bind hro (f := fun k (bt : List S96 × Int) => (incipitlaw08_known.f k).bind fun t321 => (if t321 = true then (if (0 : Int) = 0 then ((incipitlaw08_Of.f k (toE (G (cutP l a3 a4)))).bind fun t322 => ((incipitref08_Same.f k t322 bt.1).bind fun t325 => (some t325))) else (some false)) else (some false))) (Ev.bind known8 ?_)) fun k => ?_
      · refine Ev_as (Ev.bind (law_Of (G (cutP l a3 a4)) (by omega)) (f := fun k t322 => (incipitref08_Same.f k t322 (toR (G (cutP l a3 a4)))).bind fun t325 => (some t325)) (Ev.bind (same8 _ _ (by omega)) (Ev_eq fun k => by rw [decide_eq_true rfl]))) fun k => by simp
      · simp only [incipitlaw08_ExtentTells.j4]
        rw [if_neg (by decide), if_pos (by omega), if_pos (by omega), if_pos (by omega)]
        rfl
  have hj1 : Ev (fun k => incipitlaw08_ExtentTells.j1 k a1 a3 a4 (atS l a1).1 (atS l a1).2 (partS l a3 a4).1 (partS l a3 a4).2 (allP l) false) true := by
    by_cases h1 : a1 < 0
    · have ha : atS l a1 = (0, 10) := by unfold atS; rw [if_pos h, if_neg (by omega)]
      rw [ha]
      exact Ev_to (f := fun k => incipitlaw08_ExtentTells.j2 k a1 a3 a4 0 10 (partS l a3 a4).1 (partS l a3 a4).2 (allP l) true) (Ev_to hj4 fun k => by simp only [incipitlaw08_ExtentTells.j2]; rw [if_pos trivial, if_pos trivial]) fun k => by
        simp only [incipitlaw08_ExtentTells.j1]; rw [if_neg (by decide), if_pos h1]
    by_cases h2 : a1 ≥ ((allP l).length : Int)
    · have ha : atS l a1 = (0, 10) := by unfold atS; rw [if_pos h, if_neg (by omega)]
      rw [ha]
      exact Ev_to (f := fun k => incipitlaw08_ExtentTells.j2 k a1 a3 a4 0 10 (partS l a3 a4).1 (partS l a3 a4).2 (allP l) true) (Ev_to hj4 fun k => by simp only [incipitlaw08_ExtentTells.j2]; rw [if_pos trivial, if_pos trivial]) fun k => by
        simp only [incipitlaw08_ExtentTells.j1]; rw [if_neg (by decide), if_neg h1, decide_eq_true h2]
    · have ha : atS l a1 = ((allP l).getD a1.toNat 0, 0) := by unfold atS; rw [if_pos h, if_pos (by omega)]
      rw [ha]
      exact Ev_to (f := fun k => incipitlaw08_ExtentTells.j2 k a1 a3 a4 ((allP l).getD a1.toNat 0) 0 (partS l a3 a4).1 (partS l a3 a4).2 (allP l) false) (Ev_to hj4 fun k => by
        simp only [incipitlaw08_ExtentTells.j2]
        rw [if_neg (by decide), if_pos trivial, if_pos (by omega), if_pos (by omega), if_pos (show (allP l).getD a1.toNat 0 = rd (allP l) a1 from rfl)]) fun k => by
        simp only [incipitlaw08_ExtentTells.j1]; rw [if_neg (by decide), if_neg h1, decide_eq_false h2]
  have hp := pages_f l (by omega) hk
  have hc := count_f l (by omega) hk
  rw [if_pos h] at hp hc
  refine Ev_to (Ev.bind hp (f := fun k t306 => (incipitref06_Same.f k t306 (allP l)).bind fun t309 => (if t309 = true then ((extent_Count.f k (toE l)).bind fun t310 => incipitlaw08_ExtentTells.j1 k a1 a3 a4 (atS l a1).1 (atS l a1).2 (partS l a3 a4).1 (partS l a3 a4).2 (allP l) (!decide (t310 = ((allP l).length : Int)))) else (incipitlaw08_ExtentTells.j1 k a1 a3 a4 (atS l a1).1 (atS l a1).2 (partS l a3 a4).1 (partS l a3 a4).2 (allP l) true))) (Ev.bind (same6 _ _ (by omega)) ?_)) fun k => ?_
  · refine Ev_as (Ev.bind hc (f := fun k t310 => incipitlaw08_ExtentTells.j1 k a1 a3 a4 (atS l a1).1 (atS l a1).2 (partS l a3 a4).1 (partS l a3 a4).2 (allP l) (!decide (t310 = ((allP l).length : Int)))) ?_) fun k => by rw [decide_eq_true rfl]; simp
    exact Ev_as hj1 fun k => by rw [decide_eq_true rfl]; rfl
  · simp only [incipitlaw08_ExtentTells.l0]
    rw [if_neg (by omega)]
    congr 1; funext t306; congr 1; funext t309
    by_cases h309 : t309 = true
    · rw [if_pos h309, if_pos h309]
      congr 1; funext t310
      by_cases h310 : t310 = ((allP l).length : Int)
      · rw [if_pos h310, decide_eq_true h310]
        rcases hr.out with ⟨j, hj, rfl, _⟩ | ⟨rfl, _⟩
        · rw [if_neg (show ¬ (j : Int) < 0 by omega), if_pos (show (j : Int) ≥ 0 by omega), if_neg (show ¬ (j : Int) < 0 by omega), if_pos rfl]
          simp
        · simp
      · rw [if_neg h310, decide_eq_false h310]; rfl
    · rw [if_neg h309, if_neg h309]
theorem tells_l0 (l : List E) (hs : l.length ≤ 30) (hk : ∀ e ∈ l, InK .i64 e.1) (h : chk l = 0) (a1 a2 a3 a4 r : Int) (hr : Idx (allP l) a2 r) : ∀ d i : Nat, i + d = (allP l).length →
    Ev (fun k => incipitlaw08_ExtentTells.l0 k a1 a2 a3 a4 (toE l) (atS l a1).1 (atS l a1).2 (if r < 0 then ((0 : Int), (7 : Int)) else (r, 0)).1 (if r < 0 then ((0 : Int), (7 : Int)) else (r, 0)).2 (partS l a3 a4).1 (partS l a3 a4).2 (allP l) (if r < i then r else -1) (i : Int)) true := by
  have hright := chk_right l h
  have hlen := allP_len l hright.1
  intro d
  induction d with
  | zero =>
    intro i hi
    have := tells_tail l hs hk h a1 a2 a3 a4 r hr
    have hlt : r < (i : Int) := by
      rcases hr.out with ⟨j, hj, rfl, _⟩ | ⟨rfl, _⟩ <;> omega
    rw [if_pos hlt, show i = (allP l).length by omega]
    exact this
  | succ d ih =>
    intro i hi
    have hn := ih (i + 1) (by omega)
    by_cases e : (allP l).getD i 0 = a2
    · have hri : r = (i : Int) := by
        rcases hr.out with ⟨j, hj, rfl, hj2⟩ | ⟨rfl, hm⟩
        · rw [nodup_at hright.2.2 (i := i) (j := j) (by omega) hj (e.trans hj2.symm)]
        · exact absurd (e ▸ getD_mem (allP l) i 0 (by omega)) hm
      rw [if_pos (show r < ((i + 1 : Nat) : Int) by omega)] at hn
      refine Ev_to hn fun k => ?_
      rw [incipitlaw08_ExtentTells.l0, if_pos (by omega), if_pos (by omega), if_pos (by rw [rd_nat]; exact e), w_succ i (by omega), ← hri]
    · have hri : (if r < ((i + 1 : Nat) : Int) then r else -1) = (if r < (i : Int) then r else -1) := by
        rcases hr.out with ⟨j, hj, rfl, hj2⟩ | ⟨rfl, hm⟩
        · have : j ≠ i := fun h => e (by rw [← h]; exact hj2)
          split <;> split <;> omega
        · split <;> split <;> omega
      rw [hri] at hn
      refine Ev_to hn fun k => ?_
      rw [incipitlaw08_ExtentTells.l0, if_pos (by omega), if_pos (by omega), if_neg (by rw [rd_nat]; exact e), w_succ i (by omega)]
theorem ExtentTells (l0 : List S96) (a1 a2 a3 a4 : Int) (hw : ∀ x ∈ l0, InK .i64 x.f0 ∧ InK .i64 x.f1) : ∃ k, incipitlaw08_ExtentTells.f k l0 a1 a2 a3 a4 = some true := by
  refine Ev.rounds ?_
  obtain ⟨es, rfl, hes⟩ : ∃ es : List E, l0 = toR es ∧ ∀ e ∈ es, InK .i64 e.1 := ⟨l0.map fun s => (s.f0, s.f1), by unfold toR; rw [List.map_map]; exact (List.map_id l0).symm, fun e he => by
    obtain ⟨x, hx, rfl⟩ := List.mem_map.1 he
    exact (hw x hx).1⟩
  have hl : (es.take 30).length ≤ 30 := by rw [List.length_take]; omega
  have hk : ∀ e ∈ es.take 30, InK .i64 e.1 := fun e he => hes e (List.mem_of_mem_take he)
  have hto := To_f es
  generalize es.take 30 = l at *
  refine Ev_as (Ev.bind hto (f := fun k t281 => (incipitlaw08_Of.f k t281).bind fun t284 => ((incipitref08_Check.f k t284).bind fun t287 => ((extent_At.f k t281 a1).bind fun bt288 => ((extent_Find.f k t281 a2).bind fun bt290 => ((extent_Part.f k t281 a3 a4).bind fun bt292 => ((extent_Check.f k t281).bind fun t296 => (if t296 = t287 then (if t287 = 0 then ((incipitref08_All.f k t284).bind fun t302 => (incipitlaw08_ExtentTells.l0 k a1 a2 a3 a4 t281 bt288.1 bt288.2 bt290.1 bt290.2 bt292.1 bt292.2 t302 (-1) 0)) else ((incipitlaw08_known.f k).bind fun t297 => (if t297 = true then (if bt288.2 = t287 then (if bt290.2 = t287 then (if bt292.2 = t287 then ((extent_Pages.f k t281).bind fun t298 => (if (t298.length : Int) = 0 then ((extent_Count.f k t281).bind fun t301 => (some (t301 == 0))) else (some false))) else (some false)) else (some false)) else (some false)) else (some false)))) else (some false)))))))) ?_) fun k => rfl
  refine Ev.bind (law_Of l (by omega)) (Ev.bind (rcheck_f l (by omega) hk) (Ev.bind (at_f l (by omega) hk a1) ?_))
  by_cases h : chk l = 0
  · obtain ⟨r, hf, hr⟩ := find_f l (by omega) hk h a2
    refine Ev.bind hf (Ev.bind (part_f l (by omega) hk a3 a4) (Ev.bind (check_f l (by omega) hk) ?_))
    have h0 := tells_l0 l hl hk h a1 a2 a3 a4 r hr (allP l).length 0 (by omega)
    rw [show (if r < ((0 : Nat) : Int) then r else -1) = -1 by
      rcases hr.out with ⟨j, hj, rfl, hj2⟩ | ⟨rfl, hm⟩
      · rw [if_neg (by omega)]
      · rfl] at h0
    exact Ev_as (Ev.bind (rall_f l (by omega) (chk_right l h).1) (f := fun k t302 => (incipitlaw08_ExtentTells.l0 k a1 a2 a3 a4 (toE l) (atS l a1).1 (atS l a1).2 (if r < 0 then ((0 : Int), (7 : Int)) else (r, 0)).1 (if r < 0 then ((0 : Int), (7 : Int)) else (r, 0)).2 (partS l a3 a4).1 (partS l a3 a4).2 t302 (-1) 0)) h0) fun k => by rw [if_pos rfl, if_pos h]
  · refine Ev.bind (find_bad l (by omega) hk h a2) (Ev.bind (part_f l (by omega) hk a3 a4) (Ev.bind (check_f l (by omega) hk) ?_))
    have ha : (atS l a1).2 = chk l := by unfold atS; rw [if_neg h]
    have hp : (partS l a3 a4).2 = chk l := by unfold partS; rw [if_neg h]
    have hpg := pages_f l (by omega) hk
    have hc := count_f l (by omega) hk
    rw [if_neg h] at hpg hc
    refine Ev_as (Ev.bind known8 (f := fun k (t297 : Bool) => (if t297 = true then ((extent_Pages.f k (toE l)).bind fun t298 => (if (t298.length : Int) = 0 then ((extent_Count.f k (toE l)).bind fun t301 => (some (t301 == 0))) else (some false))) else (some false))) ?_) fun k => by
      rw [if_pos rfl, if_neg h, ha, hp]
      simp only [if_true]
    exact Ev_as (Ev.bind hpg (f := fun k t298 => (if (t298.length : Int) = 0 then ((extent_Count.f k (toE l)).bind fun t301 => (some (t301 == 0))) else (some false))) (Ev_as (Ev.bind hc (f := fun k t301 => some (t301 == 0)) (Ev_eq fun k => rfl)) fun k => rfl)) fun k => by rw [if_pos rfl]
theorem tellsPure (l0 : List S96) (a1 a2 a3 a4 : Int) (w0 : ∀ x ∈ l0, InK .i64 x.f0 ∧ InK .i64 x.f1) (_ : InK .i64 a1) (_ : InK .i64 a2) (_ : InK .i64 a3) (_ : InK .i64 a4) : ∃ k, incipitlaw08_ExtentTells.f k l0 a1 a2 a3 a4 = some true := ExtentTells l0 a1 a2 a3 a4 w0
end Go.Proofs.Ytneliajeokajbaa.ExtPure
