/- Layer 8: the pure side: pages, lists of pages, and what the printed functions answer. -/
import Derived.Test.YtneliajeokajbaaPExtx
import Derived.Test.YtneliajeokajbaaEvW
namespace Go.Proofs.Ytneliajeokajbaa.ExtPure
open Go.RowKit Go.Proofs.Ytneliajeokajbaa Go.Proofs.Ytneliajeokajbaa.PExt Go.Proofs.YtneliajeokajbaaW.PrintWords Go.Proofs.YtneliajeokajbaaW.PrintMore
set_option linter.unusedVariables false
abbrev E := Int × Int
def toE (l : List E) : List S107 := l.map fun e => ⟨e.1, e.2⟩
def toR (l : List E) : List S96 := l.map fun e => ⟨e.1, e.2⟩
theorem toE_len (l : List E) : (toE l).length = l.length := by simp [toE]
theorem toR_len (l : List E) : (toR l).length = l.length := by simp [toR]
theorem toE_rd (l : List E) (i : Nat) (h : i < l.length) : rd_T107 (toE l) (i : Int) = ⟨(l.getD i (0, 0)).1, (l.getD i (0, 0)).2⟩ := by
  unfold rd_T107 toE
  simp [List.getD_eq_getElem?_getD, h]
theorem toR_rd (l : List E) (i : Nat) (h : i < l.length) : rd_T96 (toR l) (i : Int) = ⟨(l.getD i (0, 0)).1, (l.getD i (0, 0)).2⟩ := by
  unfold rd_T96 toR
  simp [List.getD_eq_getElem?_getD, h]

/-! ### Same -/
theorem same6_l (a b : List Int) (hl : a.length = b.length) (hs : a.length < 4611686018427387904) : ∀ d i : Nat, i + d = a.length → Ev (fun k => incipitref06_Same.l0 k a b (i : Int)) (decide (a.drop i = b.drop i)) := by
  intro d
  induction d with
  | zero =>
    intro i hi
    rw [List.drop_of_length_le (by omega), List.drop_of_length_le (by omega), decide_eq_true rfl]
    exact Ev_now fun k => by simp only [incipitref06_Same.l0]; rw [if_neg (by omega)]
  | succ d ih =>
    intro i hi
    rw [drop_cons a i 0 (by omega), drop_cons b i 0 (by omega)]
    by_cases e : a.getD i 0 = b.getD i 0
    · rw [e]
      simp only [List.cons.injEq, true_and]
      exact Ev_to (ih (i + 1) (by omega)) fun k => by
        simp only [incipitref06_Same.l0]
        rw [if_pos (by omega), if_pos (by omega), if_pos (by omega), if_pos (by rw [rd_nat, rd_nat, e]), w_succ i (by omega)]
    · rw [decide_eq_false (by simp only [List.cons.injEq]; exact fun h => e h.1)]
      exact Ev_now fun k => by
        simp only [incipitref06_Same.l0]
        rw [if_pos (by omega), if_pos (by omega), if_pos (by omega), if_neg (by rw [rd_nat, rd_nat]; exact e)]
theorem same6 (a b : List Int) (hs : a.length < 4611686018427387904) : Ev (fun k => incipitref06_Same.f k a b) (decide (a = b)) := by
  by_cases h : a.length = b.length
  · have := same6_l a b h hs a.length 0 (by omega)
    simp only [List.drop_zero] at this
    exact Ev_as this fun k => by unfold incipitref06_Same.f; rw [if_pos (by omega)]; rfl
  · rw [decide_eq_false (fun e => h (by rw [e]))]
    exact Ev_eq fun k => by unfold incipitref06_Same.f; rw [if_neg (by omega)]
theorem same1_l (a b : List Int) (hl : a.length = b.length) (hs : a.length < 4611686018427387904) : ∀ d i : Nat, i + d = a.length → Ev (fun k => incipitref01_Same.l0 k a b (i : Int)) (decide (a.drop i = b.drop i)) := by
  intro d
  induction d with
  | zero =>
    intro i hi
    rw [List.drop_of_length_le (by omega), List.drop_of_length_le (by omega), decide_eq_true rfl]
    exact Ev_now fun k => by simp only [incipitref01_Same.l0]; rw [if_neg (by omega)]
  | succ d ih =>
    intro i hi
    rw [drop_cons a i 0 (by omega), drop_cons b i 0 (by omega)]
    by_cases e : a.getD i 0 = b.getD i 0
    · rw [e]
      simp only [List.cons.injEq, true_and]
      exact Ev_to (ih (i + 1) (by omega)) fun k => by
        simp only [incipitref01_Same.l0]
        rw [if_pos (by omega), if_pos (by omega), if_pos (by omega), if_pos (by rw [rd_nat, rd_nat, e]), w_succ i (by omega)]
    · rw [decide_eq_false (by simp only [List.cons.injEq]; exact fun h => e h.1)]
      exact Ev_now fun k => by
        simp only [incipitref01_Same.l0]
        rw [if_pos (by omega), if_pos (by omega), if_pos (by omega), if_neg (by rw [rd_nat, rd_nat]; exact e)]
theorem same1 (a b : List Int) (hs : a.length < 4611686018427387904) : Ev (fun k => incipitref01_Same.f k a b) (decide (a = b)) := by
  by_cases h : a.length = b.length
  · have := same1_l a b h hs a.length 0 (by omega)
    simp only [List.drop_zero] at this
    exact Ev_as this fun k => by unfold incipitref01_Same.f; rw [if_pos (by omega)]; rfl
  · rw [decide_eq_false (fun e => h (by rw [e]))]
    exact Ev_eq fun k => by unfold incipitref01_Same.f; rw [if_neg (by omega)]
theorem same8_l (a b : List E) (hl : a.length = b.length) (hs : a.length < 4611686018427387904) : ∀ d i : Nat, i + d = a.length → Ev (fun k => incipitref08_Same.l0 k (toR a) (toR b) (i : Int)) (decide (a.drop i = b.drop i)) := by
  intro d
  induction d with
  | zero =>
    intro i hi
    rw [List.drop_of_length_le (by omega), List.drop_of_length_le (by omega), decide_eq_true rfl]
    exact Ev_now fun k => by simp only [incipitref08_Same.l0]; rw [if_neg (by rw [toR_len]; omega)]
  | succ d ih =>
    intro i hi
    rw [drop_cons a i (0, 0) (by omega), drop_cons b i (0, 0) (by omega)]
    by_cases e : a.getD i (0, 0) = b.getD i (0, 0)
    · rw [e]
      simp only [List.cons.injEq, true_and]
      exact Ev_to (ih (i + 1) (by omega)) fun k => by
        simp only [incipitref08_Same.l0]
        rw [if_pos (by rw [toR_len]; omega), if_pos (by omega), if_pos (by rw [toR_len]; omega), if_neg (by rw [toR_rd _ _ (by omega), toR_rd _ _ (by omega), e]; simp), w_succ i (by omega)]
    · rw [decide_eq_false (by simp only [List.cons.injEq]; exact fun h => e h.1)]
      exact Ev_now fun k => by
        simp only [incipitref08_Same.l0]
        rw [if_pos (by rw [toR_len]; omega), if_pos (by omega), if_pos (by rw [toR_len]; omega), if_pos (by
          rw [toR_rd _ _ (by omega), toR_rd _ _ (by omega)]
          generalize a.getD i (0, 0) = x at e
          generalize b.getD i (0, 0) = y at e
          obtain ⟨x1, x2⟩ := x
          obtain ⟨y1, y2⟩ := y
          simp only [Bool.or_eq_true, Bool.not_eq_true', beq_eq_false_iff_ne]
          by_cases h : x1 = y1
          · subst h; exact .inr fun h => e (by rw [h])
          · exact .inl h)]
theorem same8 (a b : List E) (hs : a.length < 4611686018427387904) : Ev (fun k => incipitref08_Same.f k (toR a) (toR b)) (decide (a = b)) := by
  by_cases h : a.length = b.length
  · have := same8_l a b h hs a.length 0 (by omega)
    simp only [List.drop_zero] at this
    exact Ev_as this fun k => by unfold incipitref08_Same.f; rw [if_pos (by rw [toR_len, toR_len]; omega)]; rfl
  · rw [decide_eq_false (fun e => h (by rw [e]))]
    exact Ev_eq fun k => by unfold incipitref08_Same.f; rw [if_neg (by rw [toR_len, toR_len]; omega)]
theorem law_Of_l (a : List E) (hs : a.length < 1000000) : ∀ d i : Nat, i + d = a.length → Ev (fun k => incipitlaw08_Of.l0 k (toE a) (toR (a.take i)) (i : Int)) (toR a) := by
  intro d
  induction d with
  | zero =>
    intro i hi
    rw [List.take_of_length_le (by omega)]
    exact Ev_now fun k => by simp only [incipitlaw08_Of.l0]; rw [if_neg (by rw [toE_len]; omega)]
  | succ d ih =>
    intro i hi
    exact Ev_to (ih (i + 1) (by omega)) fun k => by
      simp only [incipitlaw08_Of.l0]
      rw [if_pos (by rw [toE_len]; omega), if_pos (by omega), if_pos (by rw [toR_len, List.length_take]; omega), w_succ i (by omega), toE_rd _ _ (by omega), take_succ_getD a i (0, 0) (by omega)]
      simp [toR]
theorem law_Of (a : List E) (hs : a.length < 1000000) : Ev (fun k => incipitlaw08_Of.f k (toE a)) (toR a) := by
  have := law_Of_l a hs a.length 0 (by omega)
  exact Ev_as this fun k => by unfold incipitlaw08_Of.f; rfl

/-! ### Twice -/
theorem twice_l (l : List Int) (hs : l.length < 1000000) (hin : ∀ x ∈ l, 0 ≤ x ∧ x < 2048) : ∀ (d i : Nat) (seen : List Bool), i + d = l.length → seen.length = 2048 → (∀ j : Nat, j < 2048 → seen.getD j false = decide ((j : Int) ∈ l.take i)) → (l.take i).Nodup →
    Ev (fun k => incipitref08_Twice.l0 k l seen (i : Int)) (!decide l.Nodup) := by
  intro d
  induction d with
  | zero =>
    intro i seen hi hl hj hn
    rw [List.take_of_length_le (by omega)] at hn
    rw [decide_eq_true hn]
    exact Ev_now fun k => by simp only [incipitref08_Twice.l0]; rw [if_neg (by omega)]; rfl
  | succ d ih =>
    intro i seen hi hl hj hn
    have hx := hin _ (getD_mem l i 0 (by omega))
    have ht := take_succ_getD l i 0 (by omega)
    generalize hxe : l.getD i 0 = x at *
    obtain ⟨n, rfl⟩ := Int.eq_ofNat_of_zero_le hx.1
    have hrd : rd l (i : Int) = (n : Int) := by rw [rd_nat]; exact hxe
    have hjn := hj n (by omega)
    have hro : rdOf false seen (n : Int) = seen.getD n false := rfl
    by_cases hm : (n : Int) ∈ l.take i
    · have hnn : ¬ l.Nodup := fun h => by
        have h2 : (l.take (i + 1)).Nodup := h.sublist (List.take_sublist _ _)
        rw [ht, List.nodup_append] at h2
        exact h2.2.2 _ hm _ (by simp) rfl
      rw [decide_eq_false hnn]
      exact Ev_now fun k => by
        simp only [incipitref08_Twice.l0]
        rw [if_pos (by omega), if_pos (by omega), if_pos (by rw [hrd]; omega), if_pos (by rw [hrd, hl]; omega), if_pos (by rw [hrd, hro, hjn, decide_eq_true hm])]
        rfl
    · refine Ev_to (ih (i + 1) (seen.set n true) (by omega) (by simpa using hl) ?_ ?_) fun k => by
        simp only [incipitref08_Twice.l0]
        rw [if_pos (by omega), if_pos (by omega), if_pos (by rw [hrd]; omega), if_pos (by rw [hrd, hl]; omega), if_neg (by rw [hrd, hro, hjn, decide_eq_false hm]; simp), hrd, w_succ i (by omega)]
        rfl
      · intro j hj2
        rw [ht]
        by_cases e : n = j
        · subst e; simp [List.getD_eq_getElem?_getD, hl, hj2]
        · have h1 := hj j hj2
          rw [List.getD_eq_getElem?_getD] at h1
          rw [List.getD_eq_getElem?_getD, List.getElem?_set_ne e, h1]
          rw [Bool.eq_iff_iff]
          simp only [decide_eq_true_eq, List.mem_append, List.mem_singleton]
          exact ⟨.inl, fun h => h.elim id fun h => absurd h (by omega)⟩
      · rw [ht, List.nodup_append]
        exact ⟨hn, by simp, fun a ha b hb => by rw [List.mem_singleton.1 hb]; exact fun e => hm (e ▸ ha)⟩
theorem twice (l : List Int) (hs : l.length < 1000000) (hin : ∀ x ∈ l, 0 ≤ x ∧ x < 2048) : Ev (fun k => incipitref08_Twice.f k l) (!decide l.Nodup) := by
  have := twice_l l hs hin l.length 0 (List.replicate 2048 false) (by omega) List.length_replicate (fun j hj => by rw [List.getD_eq_getElem?_getD, List.getElem?_replicate, if_pos hj]; simp) (by simp)
  exact Ev_as this fun k => by unfold incipitref08_Twice.f; rw [if_pos (by decide)]; rfl
end Go.Proofs.Ytneliajeokajbaa.ExtPure
