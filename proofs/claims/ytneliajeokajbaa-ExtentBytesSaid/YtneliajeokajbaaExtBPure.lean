/- Layer 8: the pure side of ExtentBytes' callees (wip/tools/mkextb.py wrote it out of ExtPure to ExtPure4). -/
import Derived.Test.YtneliajeokajbaaPExtBx8
import Derived.Test.YtneliajeokajbaaEvW
namespace Go.Proofs.Ytneliajeokajbaa.ExtBPure
open Go.RowKit Go.Proofs.Ytneliajeokajbaa Go.Proofs.Ytneliajeokajbaa.PExtB Go.Proofs.YtneliajeokajbaaW.PrintWords Go.Proofs.YtneliajeokajbaaW.PrintMore
set_option linter.unusedVariables false
abbrev E := Int × Int
def toE (l : List E) : List S107 := l.map fun e => ⟨e.1, e.2⟩
def toR (l : List E) : List S96 := l.map fun e => ⟨e.1, e.2⟩
theorem toE_len (l : List E) : (toE l).length = l.length := by simp [toE]
theorem toR_len (l : List E) : (toR l).length = l.length := by simp [toR]
theorem toE_rd (l : List E) (i : Nat) (h : i < l.length) : rd_T107 (toE l) (i : Int) = ⟨(l.getD i (0, 0)).1, (l.getD i (0, 0)).2⟩ := by
  unfold rd_T107 toE
  simp [List.getD_eq_getElem?_getD, h]
theorem toR_rd (l : List E) (i : Nat) (h : i < l.length) : rd_T96 (toR l) (i : Int) = ⟨(l.getD i (0, 0)).1, (l.getD i (0, 0)).2⟩ := by
  unfold rd_T96 toR
  simp [List.getD_eq_getElem?_getD, h]

theorem same1_l (a b : List Int) (hl : a.length = b.length) (hs : a.length < 4611686018427387904) : ∀ d i : Nat, i + d = a.length → Ev (fun k => incipitref01_Same.l0 k a b (i : Int)) (decide (a.drop i = b.drop i)) := by
  intro d
  induction d with
  | zero =>
    intro i hi
    rw [List.drop_of_length_le (by omega), List.drop_of_length_le (by omega), decide_eq_true rfl]
    exact Ev_now fun k => by simp only [incipitref01_Same.l0]; rw [if_neg (by omega)]
  | succ d ih =>
    intro i hi
    rw [drop_cons a i 0 (by omega), drop_cons b i 0 (by omega)]
    by_cases e : a.getD i 0 = b.getD i 0
    · rw [e]
      simp only [List.cons.injEq, true_and]
      exact Ev_to (ih (i + 1) (by omega)) fun k => by
        simp only [incipitref01_Same.l0]
        rw [if_pos (by omega), if_pos (by omega), if_pos (by omega), if_pos (by rw [rd_nat, rd_nat, e]), w_succ i (by omega)]
    · rw [decide_eq_false (by simp only [List.cons.injEq]; exact fun h => e h.1)]
      exact Ev_now fun k => by
        simp only [incipitref01_Same.l0]
        rw [if_pos (by omega), if_pos (by omega), if_pos (by omega), if_neg (by rw [rd_nat, rd_nat]; exact e)]
theorem same1 (a b : List Int) (hs : a.length < 4611686018427387904) : Ev (fun k => incipitref01_Same.f k a b) (decide (a = b)) := by
  by_cases h : a.length = b.length
  · have := same1_l a b h hs a.length 0 (by omega)
    simp only [List.drop_zero] at this
    exact Ev_as this fun k => by unfold incipitref01_Same.f; rw [if_pos (by omega)]; rfl
  · rw [decide_eq_false (fun e => h (by rw [e]))]
    exact Ev_eq fun k => by unfold incipitref01_Same.f; rw [if_neg (by omega)]
theorem same8_l (a b : List E) (hl : a.length = b.length) (hs : a.length < 4611686018427387904) : ∀ d i : Nat, i + d = a.length → Ev (fun k => incipitref08_Same.l0 k (toR a) (toR b) (i : Int)) (decide (a.drop i = b.drop i)) := by
  intro d
  induction d with
  | zero =>
    intro i hi
    rw [List.drop_of_length_le (by omega), List.drop_of_length_le (by omega), decide_eq_true rfl]
    exact Ev_now fun k => by simp only [incipitref08_Same.l0]; rw [if_neg (by rw [toR_len]; omega)]
  | succ d ih =>
    intro i hi
    rw [drop_cons a i (0, 0) (by omega), drop_cons b i (0, 0) (by omega)]
    by_cases e : a.getD i (0, 0) = b.getD i (0, 0)
    · rw [e]
      simp only [List.cons.injEq, true_and]
      exact Ev_to (ih (i + 1) (by omega)) fun k => by
        simp only [incipitref08_Same.l0]
        rw [if_pos (by rw [toR_len]; omega), if_pos (by omega), if_pos (by rw [toR_len]; omega), if_neg (by rw [toR_rd _ _ (by omega), toR_rd _ _ (by omega), e]; simp), w_succ i (by omega)]
    · rw [decide_eq_false (by simp only [List.cons.injEq]; exact fun h => e h.1)]
      exact Ev_now fun k => by
        simp only [incipitref08_Same.l0]
        rw [if_pos (by rw [toR_len]; omega), if_pos (by omega), if_pos (by rw [toR_len]; omega), if_pos (by
          rw [toR_rd _ _ (by omega), toR_rd _ _ (by omega)]
          generalize a.getD i (0, 0) = x at e
          generalize b.getD i (0, 0) = y at e
          obtain ⟨x1, x2⟩ := x
          obtain ⟨y1, y2⟩ := y
          simp only [Bool.or_eq_true, Bool.not_eq_true', beq_eq_false_iff_ne]
          by_cases h : x1 = y1
          · subst h; exact .inr fun h => e (by rw [h])
          · exact .inl h)]
theorem same8 (a b : List E) (hs : a.length < 4611686018427387904) : Ev (fun k => incipitref08_Same.f k (toR a) (toR b)) (decide (a = b)) := by
  by_cases h : a.length = b.length
  · have := same8_l a b h hs a.length 0 (by omega)
    simp only [List.drop_zero] at this
    exact Ev_as this fun k => by unfold incipitref08_Same.f; rw [if_pos (by rw [toR_len, toR_len]; omega)]; rfl
  · rw [decide_eq_false (fun e => h (by rw [e]))]
    exact Ev_eq fun k => by unfold incipitref08_Same.f; rw [if_neg (by rw [toR_len, toR_len]; omega)]
theorem law_Of_l (a : List E) (hs : a.length < 1000000) : ∀ d i : Nat, i + d = a.length → Ev (fun k => incipitlaw08_Of.l0 k (toE a) (toR (a.take i)) (i : Int)) (toR a) := by
  intro d
  induction d with
  | zero =>
    intro i hi
    rw [List.take_of_length_le (by omega)]
    exact Ev_now fun k => by simp only [incipitlaw08_Of.l0]; rw [if_neg (by rw [toE_len]; omega)]
  | succ d ih =>
    intro i hi
    exact Ev_to (ih (i + 1) (by omega)) fun k => by
      simp only [incipitlaw08_Of.l0]
      rw [if_pos (by rw [toE_len]; omega), if_pos (by omega), if_pos (by rw [toR_len, List.length_take]; omega), w_succ i (by omega), toE_rd _ _ (by omega), take_succ_getD a i (0, 0) (by omega)]
      simp [toR]
theorem law_Of (a : List E) (hs : a.length < 1000000) : Ev (fun k => incipitlaw08_Of.f k (toE a)) (toR a) := by
  have := law_Of_l a hs a.length 0 (by omega)
  exact Ev_as this fun k => by unfold incipitlaw08_Of.f; rfl

/-! ### Twice -/
theorem twice_l (l : List Int) (hs : l.length < 1000000) (hin : ∀ x ∈ l, 0 ≤ x ∧ x < 2048) : ∀ (d i : Nat) (seen : List Bool), i + d = l.length → seen.length = 2048 → (∀ j : Nat, j < 2048 → seen.getD j false = decide ((j : Int) ∈ l.take i)) → (l.take i).Nodup →
    Ev (fun k => incipitref08_Twice.l0 k l seen (i : Int)) (!decide l.Nodup) := by
  intro d
  induction d with
  | zero =>
    intro i seen hi hl hj hn
    rw [List.take_of_length_le (by omega)] at hn
    rw [decide_eq_true hn]
    exact Ev_now fun k => by simp only [incipitref08_Twice.l0]; rw [if_neg (by omega)]; rfl
  | succ d ih =>
    intro i seen hi hl hj hn
    have hx := hin _ (getD_mem l i 0 (by omega))
    have ht := take_succ_getD l i 0 (by omega)
    generalize hxe : l.getD i 0 = x at *
    obtain ⟨n, rfl⟩ := Int.eq_ofNat_of_zero_le hx.1
    have hrd : rd l (i : Int) = (n : Int) := by rw [rd_nat]; exact hxe
    have hjn := hj n (by omega)
    have hro : rdOf false seen (n : Int) = seen.getD n false := rfl
    by_cases hm : (n : Int) ∈ l.take i
    · have hnn : ¬ l.Nodup := fun h => by
        have h2 : (l.take (i + 1)).Nodup := h.sublist (List.take_sublist _ _)
        rw [ht, List.nodup_append] at h2
        exact h2.2.2 _ hm _ (by simp) rfl
      rw [decide_eq_false hnn]
      exact Ev_now fun k => by
        simp only [incipitref08_Twice.l0]
        rw [if_pos (by omega), if_pos (by omega), if_pos (by rw [hrd]; omega), if_pos (by rw [hrd, hl]; omega), if_pos (by rw [hrd, hro, hjn, decide_eq_true hm])]
        rfl
    · refine Ev_to (ih (i + 1) (seen.set n true) (by omega) (by simpa using hl) ?_ ?_) fun k => by
        simp only [incipitref08_Twice.l0]
        rw [if_pos (by omega), if_pos (by omega), if_pos (by rw [hrd]; omega), if_pos (by rw [hrd, hl]; omega), if_neg (by rw [hrd, hro, hjn, decide_eq_false hm]; simp), hrd, w_succ i (by omega)]
        rfl
      · intro j hj2
        rw [ht]
        by_cases e : n = j
        · subst e; simp [List.getD_eq_getElem?_getD, hl, hj2]
        · have h1 := hj j hj2
          rw [List.getD_eq_getElem?_getD] at h1
          rw [List.getD_eq_getElem?_getD, List.getElem?_set_ne e, h1]
          rw [Bool.eq_iff_iff]
          simp only [decide_eq_true_eq, List.mem_append, List.mem_singleton]
          exact ⟨.inl, fun h => h.elim id fun h => absurd h (by omega)⟩
      · rw [ht, List.nodup_append]
        exact ⟨hn, by simp, fun a ha b hb => by rw [List.mem_singleton.1 hb]; exact fun e => hm (e ▸ ha)⟩
theorem twice (l : List Int) (hs : l.length < 1000000) (hin : ∀ x ∈ l, 0 ≤ x ∧ x < 2048) : Ev (fun k => incipitref08_Twice.f k l) (!decide l.Nodup) := by
  have := twice_l l hs hin l.length 0 (List.replicate 2048 false) (by omega) List.length_replicate (fun j hj => by rw [List.getD_eq_getElem?_getD, List.getElem?_replicate, if_pos hj]; simp) (by simp)
  exact Ev_as this fun k => by unfold incipitref08_Twice.f; rw [if_pos (by decide)]; rfl

/-! ### Lists of pages, one more at a time -/
def growP (acc : List E) (p : Int) : List E :=
  match acc.getLast? with
  | some e => if e.1 + e.2 = p then acc.dropLast ++ [(e.1, e.2 + 1)] else acc ++ [(p, 1)]
  | none => [(p, 1)]
def G (l : List Int) : List E := l.foldl growP []
theorem G_snoc (l : List Int) (p : Int) : G (l ++ [p]) = growP (G l) p := by unfold G; rw [List.foldl_append]; rfl
theorem grow_nil (p : Int) : growP [] p = [(p, 1)] := rfl
theorem grow_snoc (acc : List E) (e : E) (p : Int) : growP (acc ++ [e]) p = if e.1 + e.2 = p then acc ++ [(e.1, e.2 + 1)] else acc ++ [e] ++ [(p, 1)] := by
  unfold growP
  simp
def allP (es : List E) : List Int := es.flatMap fun e => (List.range e.2.toNat).map fun j : Nat => e.1 + (j : Int)
def sumC (es : List E) : Int := (es.map (·.2)).sum
def rightP (e : E) : Bool := decide (2 ≤ e.1) && decide (1 ≤ e.2) && decide (e.1 < 2048) && decide (e.2 ≤ 2048 - e.1)
theorem rightP_iff (e : E) : rightP e = true ↔ 2 ≤ e.1 ∧ 1 ≤ e.2 ∧ e.1 < 2048 ∧ e.2 ≤ 2048 - e.1 := by
  unfold rightP
  simp [and_assoc]
theorem allP_snoc (es : List E) (e : E) : allP (es ++ [e]) = allP es ++ (List.range e.2.toNat).map fun j : Nat => e.1 + (j : Int) := by unfold allP; simp
theorem sumC_snoc (es : List E) (e : E) : sumC (es ++ [e]) = sumC es + e.2 := by unfold sumC; simp
/-- No two neighbours join. -/
def apartP : List E → Bool
  | e :: f :: r => !decide (e.1 + e.2 = f.1) && apartP (f :: r)
  | _ => true
theorem apart_snoc (es : List E) (e f : E) : apartP (es ++ [e] ++ [f]) = (apartP (es ++ [e]) && !decide (e.1 + e.2 = f.1)) := by
  induction es with
  | nil => simp [apartP, Bool.and_comm]
  | cons a es ih =>
    cases es with
    | nil => simp [apartP]
    | cons b es =>
      simp only [List.cons_append, apartP]
      simp only [List.cons_append] at ih
      rw [ih, Bool.and_assoc]
theorem apart_last (es : List E) (e : E) (c : Int) : apartP (es ++ [(e.1, c)]) = apartP (es ++ [e]) := by
  rcases List.eq_nil_or_concat es with rfl | ⟨es, b, rfl⟩
  · rfl
  · rw [List.concat_eq_append, apart_snoc, apart_snoc]
/-- What is known of the list that pages give. -/
structure GOk (l : List Int) (es : List E) : Prop where
  all : allP es = l
  right : ∀ e ∈ es, rightP e = true
  apart : apartP es = true
  sum : sumC es = l.length
  len : es.length ≤ l.length
  last : l = [] ∧ es = [] ∨ ∃ acc e m p, es = acc ++ [e] ∧ l = m ++ [p] ∧ e.1 + e.2 = p + 1
theorem range_succ_map (n : Nat) (a : Int) : (List.range (n + 1)).map (fun j : Nat => a + (j : Int)) = (List.range n).map (fun j : Nat => a + (j : Int)) ++ [a + (n : Int)] := by rw [List.range_succ]; simp
theorem snocInd' {P : List Int → Prop} (h0 : P []) (h1 : ∀ l x, P l → P (l ++ [x])) (l : List Int) : P l := by
  have h : ∀ m : List Int, P m.reverse := fun m => by
    induction m with
    | nil => exact h0
    | cons x m ih => rw [List.reverse_cons]; exact h1 _ _ ih
  have := h l.reverse
  rwa [List.reverse_reverse] at this
theorem G_ok (l : List Int) : (∀ x ∈ l, pageIn x = true) → GOk l (G l) := by
  refine snocInd' (P := fun l => (∀ x ∈ l, pageIn x = true) → GOk l (G l)) (fun _ => ⟨rfl, (fun e he => by cases he), rfl, rfl, Nat.le_refl _, .inl ⟨rfl, rfl⟩⟩) (fun l p ih h => ?_) l
  have hk := ih fun x hx => h x (List.mem_append_left _ hx)
  have hp := h p (by simp)
  unfold pageIn at hp
  simp only [Bool.and_eq_true, decide_eq_true_eq] at hp
  rw [G_snoc]
  generalize G l = es at hk
  obtain ⟨h1, h2, h3, h4, h5, h6⟩ := hk
  rcases h6 with ⟨rfl, rfl⟩ | ⟨acc, e, m, q, rfl, rfl, h7⟩
  · rw [grow_nil]
    refine ⟨by simp [allP], ?_, rfl, rfl, Nat.le_refl _, .inr ⟨[], (p, 1), [], p, rfl, rfl, rfl⟩⟩
    intro e he
    rw [List.mem_singleton.1 he, rightP_iff]
    simp only
    omega
  · rw [grow_snoc]
    have he := h2 e (by simp)
    rw [rightP_iff] at he
    by_cases hj : e.1 + e.2 = p
    · rw [if_pos hj]
      obtain ⟨n, hn⟩ := Int.eq_ofNat_of_zero_le (show 0 ≤ e.2 by omega)
      refine ⟨?_, ?_, ?_, ?_, ?_, .inr ⟨acc, (e.1, e.2 + 1), m ++ [q], p, rfl, rfl, by simp only; omega⟩⟩
      · rw [allP_snoc] at h1 ⊢
        rw [← h1]
        simp only
        rw [hn, show ((n : Int) + 1).toNat = n + 1 by omega, range_succ_map, Int.toNat_natCast, ← List.append_assoc]
        congr 2
        omega
      · intro f hf
        rcases List.mem_append.1 hf with hf | hf
        · exact h2 f (List.mem_append_left _ hf)
        · rw [List.mem_singleton.1 hf, rightP_iff]
          simp only
          omega
      · rw [apart_last]; exact h3
      · rw [sumC_snoc] at h4 ⊢
        simp only [List.length_append, List.length_singleton] at h4 ⊢
        omega
      · simp only [List.length_append, List.length_singleton] at h5 ⊢
        omega
    · rw [if_neg hj]
      refine ⟨?_, ?_, ?_, ?_, ?_, .inr ⟨acc ++ [e], (p, 1), m ++ [q], p, rfl, rfl, rfl⟩⟩
      · rw [allP_snoc, h1]; simp
      · intro f hf
        rcases List.mem_append.1 hf with hf | hf
        · exact h2 f hf
        · rw [List.mem_singleton.1 hf, rightP_iff]
          simp only
          omega
      · rw [apart_snoc, h3]; simp [hj]
      · rw [sumC_snoc, h4]; simp; omega
      · simp only [List.length_append, List.length_singleton] at h5 ⊢
        omega

/-! ### Of -/
theorem toE_snoc (l : List E) (e : E) : toE (l ++ [e]) = toE l ++ [⟨e.1, e.2⟩] := by simp [toE]
theorem toR_snoc (l : List E) (e : E) : toR (l ++ [e]) = toR l ++ [⟨e.1, e.2⟩] := by simp [toR]
theorem set_snoc {α : Type} (l : List α) (a b : α) (n : Nat) (h : n = l.length) : (l ++ [a]).set n b = l ++ [b] := by subst h; simp
theorem take_in {l : List Int} (h : ∀ x ∈ l, pageIn x = true) (i : Nat) : ∀ x ∈ l.take i, pageIn x = true := fun x hx => h x (List.mem_of_mem_take hx)
theorem Of_l (l : List Int) (hs : l.length ≤ 4096) (hin : ∀ x ∈ l, pageIn x = true) : ∀ d i : Nat, i + d = l.length → Ev (fun k => extent_Of.l0 k (toE (G (l.take i))) l (l.length : Int) (i : Int)) (toE (G l), 0) := by
  intro d
  induction d with
  | zero =>
    intro i hi
    rw [List.take_of_length_le (by omega)]
    exact Ev_now fun k => by simp only [extent_Of.l0]; rw [if_neg (by omega)]
  | succ d ih =>
    intro i hi
    have hk := G_ok (l.take i) (take_in hin i)
    have hnext := ih (i + 1) (by omega)
    rw [take_succ_getD l i 0 (by omega), G_snoc] at hnext
    have hrd : rd l (i : Int) = l.getD i 0 := rfl
    generalize hp : l.getD i 0 = p at *
    have hpi := hin p (by rw [← hp]; exact getD_mem l i 0 (by omega))
    unfold pageIn at hpi
    simp only [Bool.and_eq_true, decide_eq_true_eq] at hpi
    have hlen := hk.len
    rw [List.length_take] at hlen
    rcases hk.last with ⟨h1, h2⟩ | ⟨acc, e, m, q, h2, _, _⟩
    · rw [h2] at hnext ⊢
      rw [grow_nil] at hnext
      exact Ev_to hnext fun k => by
        simp only [extent_Of.l0]
        rw [if_pos (by omega), if_pos (by omega), if_pos (by omega), if_neg (by simp [toE]), if_pos (by simp [toE]), hrd, w_succ i (by omega)]
        rfl
    · rw [h2] at hnext ⊢ hlen
      have he := hk.right e (by rw [h2]; simp)
      rw [rightP_iff] at he
      rw [grow_snoc] at hnext
      have hL : ((toE (acc ++ [e])).length : Int) = (acc.length : Int) + 1 := by rw [toE_len]; simp
      have hW : wrap64 (((toE (acc ++ [e])).length : Int) - 1) = (acc.length : Int) := by rw [hL, w_id] <;> simp at hlen <;> omega
      have hR : rd_T107 (toE (acc ++ [e])) (acc.length : Int) = ⟨e.1, e.2⟩ := by rw [toE_rd _ _ (by simp)]; simp
      simp only [List.length_append, List.length_singleton] at hlen
      by_cases hj : e.1 + e.2 = p
      · rw [if_pos hj] at hnext
        refine Ev_to hnext fun k => ?_
        simp only [extent_Of.l0, hW, hR]
        rw [if_pos (by omega), if_pos (by omega), if_pos (by omega), if_pos (by rw [hL]; omega), if_pos (by omega), if_pos (by rw [hL]; omega)]
        unfold extent_Extent_end.f
        simp only [Option.bind_some]
        rw [if_pos (by rw [hrd, w_id] <;> omega), w_succ i (by omega), toE_snoc, set_snoc _ _ _ _ (by simp [toE]), w_id (by omega) (by omega), toE_snoc]
      · rw [if_neg hj] at hnext
        refine Ev_to hnext fun k => ?_
        simp only [extent_Of.l0, hW, hR]
        rw [if_pos (by omega), if_pos (by omega), if_pos (by omega), if_pos (by rw [hL]; omega), if_pos (by omega), if_pos (by rw [hL]; omega)]
        unfold extent_Extent_end.f
        simp only [Option.bind_some]
        rw [if_neg (by rw [hrd, w_id] <;> omega), if_pos (by rw [toE_len]; simp; omega), w_succ i (by omega), toE_snoc _ (p, 1), hrd]
theorem pagesErr_zero (l : List Int) (h : pagesErr l = 0) : (∀ x ∈ l, pageIn x = true) ∧ l.length ≤ 1024 ∧ l.Nodup := by
  unfold pagesErr at h
  split at h
  · cases h
  · rename_i h1
    split at h
    · cases h
    · rename_i h2
      split at h
      · rename_i h3
        exact ⟨any_not_all l pageIn (by simpa using h1), by omega, h3⟩
      · cases h
theorem Of_f (l : List Int) (hk : ∀ x ∈ l, InK .i64 x) : Ev (fun k => extent_Of.f k l) (if pagesErr l = 0 then (toE (G l), 0) else ([], pagesErr l)) := by
  have hp : extent_pages.f l = some (pagesErr l) := by unfold extent_pages.f; rw [if_pos (inKs_mk hk)]
  by_cases h : pagesErr l = 0
  · rw [if_pos h]
    obtain ⟨h1, h2, h3⟩ := pagesErr_zero l h
    have := Of_l l (by omega) h1 l.length 0 (by omega)
    exact Ev_as this fun k => by unfold extent_Of.f; rw [hp, Option.bind_some, if_pos h]; rfl
  · rw [if_neg h]
    exact Ev_eq fun k => by unfold extent_Of.f; rw [hp, Option.bind_some, if_neg h]
theorem allP_cons (e : E) (es : List E) : allP (e :: es) = ((List.range e.2.toNat).map fun j : Nat => e.1 + (j : Int)) ++ allP es := by unfold allP; simp
theorem sumC_cons (e : E) (es : List E) : sumC (e :: es) = e.2 + sumC es := by unfold sumC; simp
theorem allP_len (es : List E) (h : ∀ e ∈ es, rightP e = true) : ((allP es).length : Int) = sumC es := by
  induction es with
  | nil => rfl
  | cons e es ih =>
    have he := (rightP_iff e).1 (h e (by simp))
    rw [allP_cons, sumC_cons, List.length_append, List.length_map, List.length_range]
    have := ih fun f hf => h f (by simp [hf])
    omega
theorem sumC_bound (es : List E) (h : ∀ e ∈ es, rightP e = true) : 0 ≤ sumC es ∧ sumC es ≤ 2048 * es.length := by
  induction es with
  | nil => exact ⟨Int.le_refl _, Int.le_refl _⟩
  | cons e es ih =>
    have he := (rightP_iff e).1 (h e (by simp))
    have := ih fun f hf => h f (by simp [hf])
    rw [sumC_cons, List.length_cons]
    omega
theorem allP_mem (es : List E) (h : ∀ e ∈ es, rightP e = true) : ∀ x ∈ allP es, pageIn x = true := by
  intro x hx
  unfold allP at hx
  obtain ⟨e, he, hx⟩ := List.mem_flatMap.1 hx
  obtain ⟨j, hj, rfl⟩ := List.mem_map.1 hx
  have h1 := (rightP_iff e).1 (h e he)
  have h2 := List.mem_range.1 hj
  unfold pageIn
  simp only [Bool.and_eq_true, decide_eq_true_eq]
  omega
/-- all: the outer and the inner loop. -/
theorem all_l1 (l : List E) (hs : l.length ≤ 4096) (i : Nat) (hi : i < l.length) (f : Int) (c : Nat) (c2 : Int) (hf : 0 ≤ f ∧ f ≤ 4096) (hc : c ≤ 2048)
    (hrest : ∀ acc, acc.length + (allP (l.drop (i + 1))).length ≤ 1000000000 → Ev (fun k => extent_all.l0 k acc (toE l) (l.length : Int) ((i + 1 : Nat) : Int)) (acc ++ allP (l.drop (i + 1)))) : ∀ (d j : Nat) (acc : List Int), j + d = c → acc.length + d + (allP (l.drop (i + 1))).length ≤ 1000000000 →
    Ev (fun k => extent_all.l1 k acc (toE l) (l.length : Int) (i : Int) (c : Int) (j : Int) f c2) (acc ++ ((List.range c).drop j).map (fun j : Nat => f + (j : Int)) ++ allP (l.drop (i + 1))) := by
  intro d
  induction d with
  | zero =>
    intro j acc hj hl
    rw [List.drop_of_length_le (by rw [List.length_range]; omega), List.map_nil, List.append_nil]
    exact Ev_to (hrest acc (by omega)) fun k => by simp only [extent_all.l1]; rw [if_neg (by omega), w_succ i (by omega)]
  | succ d ih =>
    intro j acc hj hl
    have hn := ih (j + 1) (acc ++ [f + (j : Int)]) (by omega) (by simp; omega)
    rw [show ((List.range c).drop j).map (fun j : Nat => f + (j : Int)) = (f + (j : Int)) :: ((List.range c).drop (j + 1)).map (fun j : Nat => f + (j : Int)) by
      rw [drop_cons (List.range c) j 0 (by rw [List.length_range]; omega), List.map_cons]
      simp [List.getD_eq_getElem?_getD, show j < c by omega]]
    rw [List.append_assoc acc [_], List.singleton_append] at hn
    exact Ev_to hn fun k => by
      simp only [extent_all.l1]
      rw [if_pos (by omega), if_pos (by omega), w_id (by omega) (by omega), w_succ j (by omega)]
theorem all_l0 (l : List E) (hs : l.length ≤ 4096) (hr : ∀ e ∈ l, rightP e = true) : ∀ (d i : Nat) (acc : List Int), i + d = l.length → acc.length + (allP (l.drop i)).length ≤ 1000000000 →
    Ev (fun k => extent_all.l0 k acc (toE l) (l.length : Int) (i : Int)) (acc ++ allP (l.drop i)) := by
  intro d
  induction d with
  | zero =>
    intro i acc hi hl
    rw [List.drop_of_length_le (by omega)]
    simp only [allP, List.flatMap_nil, List.append_nil]
    exact Ev_now fun k => by simp only [extent_all.l0]; rw [if_neg (by omega)]
  | succ d ih =>
    intro i acc hi hl
    have he := (rightP_iff _).1 (hr _ (getD_mem l i (0, 0) (by omega)))
    rw [drop_cons l i (0, 0) (by omega), allP_cons] at hl ⊢
    have hrd := toE_rd l i (by omega)
    generalize l.getD i (0, 0) = e at *
    obtain ⟨n, hn⟩ := Int.eq_ofNat_of_zero_le (show 0 ≤ e.2 by omega)
    rw [List.length_append, List.length_map, List.length_range] at hl
    have h1 := all_l1 l hs i (by omega) e.1 n (n : Int) (by omega) (by omega) (fun acc' h' => ih (i + 1) acc' (by omega) h') n 0 acc (by omega) (by omega)
    rw [List.drop_zero] at h1
    rw [← List.append_assoc, hn, Int.toNat_natCast]
    exact Ev_to h1 fun k => by
      simp only [extent_all.l0, hrd]
      rw [if_pos (by omega), if_pos (by omega), if_pos (by rw [toE_len]; omega), hn]
      rfl
theorem all_f (l : List E) (hs : l.length ≤ 4096) (hr : ∀ e ∈ l, rightP e = true) : Ev (fun k => extent_all.f k (toE l)) (allP l) := by
  have hb := sumC_bound l hr
  have hl := allP_len l hr
  have := all_l0 l hs hr l.length 0 [] (by omega) (by rw [List.drop_zero]; simp only [List.length_nil]; omega)
  rw [List.drop_zero, List.nil_append] at this
  exact Ev_as this fun k => by unfold extent_all.f; rw [toE_len]; rfl

/-! ### Check -/
def chk (es : List E) : Int := if es.any (fun e => !rightP e) then 10 else if 1024 < sumC es then 2 else if (allP es).Nodup then (if apartP es then 0 else 3) else 8
theorem right_f (e : E) (he : -9223372036854775808 ≤ e.1) : extent_Extent_right.f e.1 e.2 = some (rightP e) := by
  unfold extent_Extent_right.f rightP
  by_cases h1 : e.1 ≥ 2
  · rw [if_pos h1, decide_eq_true (show (2 : Int) ≤ e.1 from h1), Bool.true_and]
    by_cases h2 : e.2 ≥ 1
    · rw [if_pos h2, decide_eq_true (show (1 : Int) ≤ e.2 from h2), Bool.true_and]
      by_cases h3 : e.1 < 2048
      · rw [if_pos h3, decide_eq_true h3, Bool.true_and, w_id (by omega) (by omega)]
      · rw [if_neg h3, decide_eq_false h3, Bool.false_and]
    · rw [if_neg h2, decide_eq_false (show ¬ (1 : Int) ≤ e.2 from h2), Bool.false_and, Bool.false_and]
  · rw [if_neg h1, decide_eq_false (show ¬ (2 : Int) ≤ e.1 from h1), Bool.false_and, Bool.false_and, Bool.false_and]
theorem check_l1 (l : List E) (hs : l.length ≤ 4096) (hr : ∀ e ∈ l, rightP e = true) : ∀ d i : Nat, i + d = l.length → apartP (l.take i) = true →
    Ev (fun k => extent_Check.l1 k (toE l) (toE l) (l.length : Int) (i : Int)) (if apartP l = true then 0 else 3) := by
  intro d
  induction d with
  | zero =>
    intro i hi ha
    rw [List.take_of_length_le (by omega)] at ha
    rw [if_pos ha]
    exact Ev_now fun k => by simp only [extent_Check.l1]; rw [if_neg (by omega)]
  | succ d ih =>
    intro i hi ha
    have hrd := toE_rd l i (by omega)
    have ht := take_succ_getD l i (0, 0) (by omega)
    rcases Nat.eq_zero_or_pos i with h0 | h0
    · subst h0
      refine Ev_to (ih 1 (by omega) ?_) fun k => ?_
      · rw [ht]; rfl
      · simp only [extent_Check.l1]
        rw [if_pos (by omega), if_pos (by omega), if_pos (by rw [toE_len]; omega), if_neg (by omega), w_succ 0 (by omega)]
    · obtain ⟨m, rfl⟩ : ∃ m, i = m + 1 := ⟨i - 1, by omega⟩
      have hrd2 := toE_rd l m (by omega)
      have ht2 := take_succ_getD l m (0, 0) (by omega)
      have he := (rightP_iff _).1 (hr _ (getD_mem l m (0, 0) (by omega)))
      have hW : wrap64 (((m + 1 : Nat) : Int) - 1) = (m : Int) := by rw [w_id] <;> omega
      have hap : apartP (l.take (m + 1 + 1)) = (apartP (l.take (m + 1)) && !decide ((l.getD m (0, 0)).1 + (l.getD m (0, 0)).2 = (l.getD (m + 1) (0, 0)).1)) := by
        rw [ht, ht2, apart_snoc]
      generalize l.getD m (0, 0) = e at *
      generalize l.getD (m + 1) (0, 0) = f at *
      by_cases hj : e.1 + e.2 = f.1
      · have hna : apartP l = false := by
          have h1 : apartP (l.take (m + 1 + 1)) = false := by rw [hap]; simp [hj]
          have h2 : ∀ (a b : List E), apartP (a ++ b) = true → apartP a = true := by
            intro a b
            induction a with
            | nil => intro _; rfl
            | cons x a ih2 =>
              cases a with
              | nil => intro _; rfl
              | cons y a =>
                intro h
                simp only [List.cons_append, apartP, Bool.and_eq_true] at h ih2 ⊢
                exact ⟨h.1, ih2 h.2⟩
          cases hc : apartP l with
          | false => rfl
          | true =>
            rw [← List.take_append_drop (m + 1 + 1) l] at hc
            rw [h2 _ _ hc] at h1
            cases h1
        rw [hna, if_neg (by decide)]
        refine Ev_now fun k => ?_
        simp only [extent_Check.l1, hW, hrd, hrd2]
        rw [if_pos (by omega), if_pos (by omega), if_pos (by rw [toE_len]; omega), if_pos (by omega), if_pos (by omega), if_pos (by rw [toE_len]; omega)]
        unfold extent_Extent_end.f
        simp only [Option.bind_some]
        rw [if_pos (by rw [w_id] <;> omega)]
      · refine Ev_to (ih (m + 1 + 1) (by omega) ?_) fun k => ?_
        · rw [hap, ha]; simp [hj]
        · simp only [extent_Check.l1, hW, hrd, hrd2]
          rw [if_pos (by omega), if_pos (by omega), if_pos (by rw [toE_len]; omega), if_pos (by omega), if_pos (by omega), if_pos (by rw [toE_len]; omega)]
          unfold extent_Extent_end.f
          simp only [Option.bind_some]
          rw [if_neg (by rw [w_id] <;> omega), w_succ (m + 1) (by omega)]
theorem pages_all (l : List E) (hr : ∀ e ∈ l, rightP e = true) (hs : sumC l ≤ 1024) : extent_pages.f (allP l) = some (if (allP l).Nodup then 0 else 8) := by
  have hm := allP_mem l hr
  have hl := allP_len l hr
  unfold extent_pages.f
  rw [if_pos (inKs_mk fun x hx => by
    have := hm x hx
    unfold pageIn at this
    simp only [Bool.and_eq_true, decide_eq_true_eq] at this
    exact InK.of_i64 (by omega) (by omega))]
  unfold pagesErr
  rw [if_neg (by simp only [List.any_eq_true, not_exists, not_and]; intro x hx; simp [hm x hx]), if_neg (by omega)]
theorem check_l0 (l : List E) (hs : l.length ≤ 4096) (hk : ∀ e ∈ l, InK .i64 e.1) : ∀ d i : Nat, i + d = l.length → (∀ e ∈ l.take i, rightP e = true) →
    Ev (fun k => extent_Check.l0 k (toE l) (min (sumC (l.take i)) 1025) (toE l) (l.length : Int) (i : Int)) (chk l) := by
  intro d
  induction d with
  | zero =>
    intro i hi hr
    rw [List.take_of_length_le (by omega)] at hr ⊢
    have hb := sumC_bound l hr
    have hany : l.any (fun e => !rightP e) = false := by rw [List.any_eq_false]; intro x hx; simp [hr x hx]
    unfold chk
    rw [hany, if_neg (by decide)]
    by_cases hl : 1024 < sumC l
    · rw [if_pos hl]
      exact Ev_now fun k => by simp only [extent_Check.l0]; rw [if_neg (by omega), if_pos (by omega)]
    · rw [if_neg hl]
      have ha := all_f l hs hr
      have hp := pages_all l hr (by omega)
      by_cases hn : (allP l).Nodup
      · rw [if_pos hn] at hp ⊢
        have h1 := check_l1 l hs hr l.length 0 (by omega) rfl
        refine Ev_to (Ev.bind ha (f := fun k t => (extent_pages.f t).bind fun t157 => if t157 = 0 then extent_Check.l1 k (toE l) (toE l) (l.length : Int) 0 else some t157) (Ev_as h1 fun k => by rw [hp]; rfl)) fun k => ?_
        simp only [extent_Check.l0]
        rw [if_neg (by omega), if_neg (by omega), toE_len]
      · rw [if_neg hn] at hp ⊢
        refine Ev_to (Ev.bind ha (f := fun k t => (extent_pages.f t).bind fun t157 => if t157 = 0 then extent_Check.l1 k (toE l) (toE l) (l.length : Int) 0 else some t157) (Ev_eq fun k => by rw [hp]; rfl)) fun k => ?_
        simp only [extent_Check.l0]
        rw [if_neg (by omega), if_neg (by omega), toE_len]
  | succ d ih =>
    intro i hi hr
    have hrd := toE_rd l i (by omega)
    have ht := take_succ_getD l i (0, 0) (by omega)
    have hm := getD_mem l i (0, 0) (by omega)
    have hb := sumC_bound _ hr
    have hlt : (l.take i).length ≤ 4096 := by rw [List.length_take]; omega
    generalize l.getD i (0, 0) = e at *
    have hrf := right_f e (hk e hm).i64.1
    cases hre : rightP e with
    | true =>
      have he := (rightP_iff e).1 hre
      rw [hre] at hrf
      refine Ev_to (ih (i + 1) (by omega) ?_) fun k => ?_
      · rw [ht]; intro x hx
        rcases List.mem_append.1 hx with h | h
        · exact hr x h
        · rw [List.mem_singleton.1 h]; exact hre
      · simp only [extent_Check.l0, hrd, hrf, Option.bind_some]
        rw [if_pos (by omega), if_pos (by omega), if_pos (by rw [toE_len]; omega), if_pos trivial, w_succ i (by omega), ht, sumC_snoc]
        congr 1
        unfold mn
        rw [w_id (by omega) (by omega)]
        split <;> omega
    | false =>
      have he : chk l = 10 := by
        unfold chk
        rw [if_pos (List.any_eq_true.2 ⟨e, hm, by simp [hre]⟩)]
      rw [hre] at hrf
      rw [he]
      refine Ev_now fun k => ?_
      simp only [extent_Check.l0, hrd, hrf, Option.bind_some]
      rw [if_pos (by omega), if_pos (by omega), if_pos (by rw [toE_len]; omega), if_neg (by decide)]
theorem check_f (l : List E) (hs : l.length ≤ 4096) (hk : ∀ e ∈ l, InK .i64 e.1) : Ev (fun k => extent_Check.f k (toE l)) (chk l) := by
  have := check_l0 l hs hk l.length 0 (by omega) (by simp)
  exact Ev_as this fun k => by unfold extent_Check.f; rw [toE_len]; rfl
theorem To_l (a : List E) : ∀ d i : Nat, i + d = min a.length 30 → Ev (fun k => incipitlaw08_To.l0 k (toR a) (toE (a.take i)) (i : Int)) (toE (a.take 30)) := by
  intro d
  induction d with
  | zero =>
    intro i hi
    rw [show a.take i = a.take 30 by
      rcases Nat.le_total a.length 30 with h | h
      · rw [List.take_of_length_le (by omega), List.take_of_length_le h]
      · rw [show i = 30 by omega]]
    refine Ev_now fun k => ?_
    simp only [incipitlaw08_To.l0]
    by_cases h : (i : Int) < ((toR a).length : Int)
    · rw [if_pos h, if_neg (by rw [toR_len] at h; omega)]
    · rw [if_neg h]
  | succ d ih =>
    intro i hi
    exact Ev_to (ih (i + 1) (by omega)) fun k => by
      simp only [incipitlaw08_To.l0]
      rw [if_pos (by rw [toR_len]; omega), if_pos (by omega), if_pos (by omega), if_pos (by rw [toE_len, List.length_take]; omega), w_succ i (by omega), toR_rd _ _ (by omega), take_succ_getD a i (0, 0) (by omega)]
      simp [toE]
theorem To_f (a : List E) : Ev (fun k => incipitlaw08_To.f k (toR a)) (toE (a.take 30)) := by
  have := To_l a (min a.length 30) 0 (by omega)
  exact Ev_as this fun k => by unfold incipitlaw08_To.f; rfl

/-! ### All, Check, the document's -/
theorem rall_l1 (l : List E) (hs : l.length ≤ 4096) (i : Nat) (hi : i < l.length) (f : Int) (c : Nat) (hrd : rd_T96 (toR l) (i : Int) = ⟨f, (c : Int)⟩) (hf : 0 ≤ f ∧ f ≤ 4096) (hc : c ≤ 2048)
    (hrest : ∀ acc, acc.length + (allP (l.drop (i + 1))).length ≤ 1000000000 → Ev (fun k => incipitref08_All.l0 k (toR l) acc ((i + 1 : Nat) : Int)) (acc ++ allP (l.drop (i + 1)))) : ∀ (d j : Nat) (acc : List Int), j + d = c → acc.length + d + (allP (l.drop (i + 1))).length ≤ 1000000000 →
    Ev (fun k => incipitref08_All.l1 k (toR l) acc (i : Int) (j : Int)) (acc ++ ((List.range c).drop j).map (fun j : Nat => f + (j : Int)) ++ allP (l.drop (i + 1))) := by
  intro d
  induction d with
  | zero =>
    intro j acc hj hl
    rw [List.drop_of_length_le (by rw [List.length_range]; omega), List.map_nil, List.append_nil]
    exact Ev_to (hrest acc (by omega)) fun k => by simp only [incipitref08_All.l1, hrd]; rw [if_pos (by omega), if_pos (by rw [toR_len]; omega), if_neg (by omega), w_succ i (by omega)]
  | succ d ih =>
    intro j acc hj hl
    have hn := ih (j + 1) (acc ++ [f + (j : Int)]) (by omega) (by simp; omega)
    rw [show ((List.range c).drop j).map (fun j : Nat => f + (j : Int)) = (f + (j : Int)) :: ((List.range c).drop (j + 1)).map (fun j : Nat => f + (j : Int)) by
      rw [drop_cons (List.range c) j 0 (by rw [List.length_range]; omega), List.map_cons]
      simp [List.getD_eq_getElem?_getD, show j < c by omega]]
    rw [List.append_assoc acc [_], List.singleton_append] at hn
    exact Ev_to hn fun k => by
      simp only [incipitref08_All.l1, hrd]
      rw [if_pos (by omega), if_pos (by rw [toR_len]; omega), if_pos (by omega), if_pos (by omega), w_id (by omega) (by omega), w_succ j (by omega)]
theorem rall_l0 (l : List E) (hs : l.length ≤ 4096) (hr : ∀ e ∈ l, rightP e = true) : ∀ (d i : Nat) (acc : List Int), i + d = l.length → acc.length + (allP (l.drop i)).length ≤ 1000000000 →
    Ev (fun k => incipitref08_All.l0 k (toR l) acc (i : Int)) (acc ++ allP (l.drop i)) := by
  intro d
  induction d with
  | zero =>
    intro i acc hi hl
    rw [List.drop_of_length_le (by omega)]
    simp only [allP, List.flatMap_nil, List.append_nil]
    exact Ev_now fun k => by simp only [incipitref08_All.l0]; rw [if_neg (by rw [toR_len]; omega)]
  | succ d ih =>
    intro i acc hi hl
    have he := (rightP_iff _).1 (hr _ (getD_mem l i (0, 0) (by omega)))
    rw [drop_cons l i (0, 0) (by omega), allP_cons] at hl ⊢
    have hrd := toR_rd l i (by omega)
    generalize l.getD i (0, 0) = e at *
    obtain ⟨n, hn⟩ := Int.eq_ofNat_of_zero_le (show 0 ≤ e.2 by omega)
    rw [List.length_append, List.length_map, List.length_range] at hl
    rw [hn] at hrd
    have h1 := rall_l1 l hs i (by omega) e.1 n hrd (by omega) (by omega) (fun acc' h' => ih (i + 1) acc' (by omega) h') n 0 acc (by omega) (by omega)
    rw [List.drop_zero] at h1
    rw [← List.append_assoc, hn, Int.toNat_natCast]
    exact Ev_to h1 fun k => by
      simp only [incipitref08_All.l0]
      rw [if_pos (by rw [toR_len]; omega)]
      rfl
theorem rall_f (l : List E) (hs : l.length ≤ 4096) (hr : ∀ e ∈ l, rightP e = true) : Ev (fun k => incipitref08_All.f k (toR l)) (allP l) := by
  have hb := sumC_bound l hr
  have hl := allP_len l hr
  have := rall_l0 l hs hr l.length 0 [] (by omega) (by rw [List.drop_zero]; simp only [List.length_nil]; omega)
  rw [List.drop_zero, List.nil_append] at this
  exact Ev_as this fun k => by unfold incipitref08_All.f; rfl
theorem apart_take_false (l : List E) (n : Nat) (h : apartP (l.take n) = false) : apartP l = false := by
  have h2 : ∀ (a b : List E), apartP (a ++ b) = true → apartP a = true := by
    intro a b
    induction a with
    | nil => intro _; rfl
    | cons x a ih2 =>
      cases a with
      | nil => intro _; rfl
      | cons y a =>
        intro h
        simp only [List.cons_append, apartP, Bool.and_eq_true] at h ih2 ⊢
        exact ⟨h.1, ih2 h.2⟩
  cases hc : apartP l with
  | false => rfl
  | true =>
    rw [← List.take_append_drop n l] at hc
    rw [h2 _ _ hc] at h
    cases h
theorem rcheck_l1 (l : List E) (hs : l.length ≤ 4096) (hr : ∀ e ∈ l, rightP e = true) : ∀ d m : Nat, m + 1 + d = l.length → apartP (l.take (m + 1)) = true →
    Ev (fun k => incipitref08_Check.l1 k (toR l) ((m + 1 : Nat) : Int)) (if apartP l = true then 0 else 3) := by
  intro d
  induction d with
  | zero =>
    intro i hi ha
    rw [List.take_of_length_le (by omega)] at ha
    rw [if_pos ha]
    exact Ev_now fun k => by simp only [incipitref08_Check.l1]; rw [if_neg (by rw [toR_len]; omega)]
  | succ d ih =>
    intro m hi ha
    have hrd := toR_rd l (m + 1) (by omega)
    have ht := take_succ_getD l (m + 1) (0, 0) (by omega)
    have hrd2 := toR_rd l m (by omega)
    have ht2 := take_succ_getD l m (0, 0) (by omega)
    have he := (rightP_iff _).1 (hr _ (getD_mem l m (0, 0) (by omega)))
    have hW : wrap64 (((m + 1 : Nat) : Int) - 1) = (m : Int) := by rw [w_id] <;> omega
    have hap : apartP (l.take (m + 1 + 1)) = (apartP (l.take (m + 1)) && !decide ((l.getD m (0, 0)).1 + (l.getD m (0, 0)).2 = (l.getD (m + 1) (0, 0)).1)) := by
      rw [ht, ht2, apart_snoc]
    generalize l.getD m (0, 0) = e at *
    generalize l.getD (m + 1) (0, 0) = f at *
    by_cases hj : e.1 + e.2 = f.1
    · rw [apart_take_false l (m + 1 + 1) (by rw [hap]; simp [hj]), if_neg (by decide)]
      refine Ev_now fun k => ?_
      simp only [incipitref08_Check.l1, hW, hrd, hrd2]
      rw [if_pos (by rw [toR_len]; omega), if_pos (by omega), if_pos (by rw [toR_len]; omega), if_pos (by omega), if_pos (by rw [w_id] <;> omega)]
    · refine Ev_to (ih (m + 1) (by omega) ?_) fun k => ?_
      · rw [hap, ha]; simp [hj]
      · simp only [incipitref08_Check.l1, hW, hrd, hrd2]
        rw [if_pos (by rw [toR_len]; omega), if_pos (by omega), if_pos (by rw [toR_len]; omega), if_pos (by omega), if_neg (by rw [w_id] <;> omega), w_succ (m + 1) (by omega)]
theorem rcheck_l0 (l : List E) (hs : l.length ≤ 4096) (hk : ∀ e ∈ l, InK .i64 e.1) : ∀ d i : Nat, i + d = l.length → (∀ e ∈ l.take i, rightP e = true) →
    Ev (fun k => incipitref08_Check.l0 k (toR l) (sumC (l.take i)) (i : Int)) (chk l) := by
  intro d
  induction d with
  | zero =>
    intro i hi hr
    rw [List.take_of_length_le (by omega)] at hr ⊢
    have hb := sumC_bound l hr
    have hany : l.any (fun e => !rightP e) = false := by rw [List.any_eq_false]; intro x hx; simp [hr x hx]
    unfold chk
    rw [hany, if_neg (by decide)]
    by_cases hl : 1024 < sumC l
    · rw [if_pos hl]
      exact Ev_now fun k => by simp only [incipitref08_Check.l0]; rw [if_neg (by rw [toR_len]; omega), if_pos (by omega)]
    · rw [if_neg hl]
      have ha := rall_f l hs hr
      have hlen := allP_len l hr
      have hm := allP_mem l hr
      have ht := twice (allP l) (by omega) fun x hx => by have := hm x hx; unfold pageIn at this; simp at this; omega
      by_cases hn : (allP l).Nodup
      · rw [decide_eq_true hn] at ht
        rw [if_pos hn]
        have h1 : Ev (fun k => incipitref08_Check.l1 k (toR l) 1) (if apartP l = true then 0 else 3) := by
          rcases Nat.eq_zero_or_pos l.length with h0 | h0
          · have e0 : l = [] := List.eq_nil_of_length_eq_zero h0
            subst e0
            exact Ev_now fun k => by simp only [incipitref08_Check.l1]; rw [if_neg (by simp [toR])]; rfl
          · have := rcheck_l1 l hs hr (l.length - 1) 0 (by omega) (by
              rw [take_succ_getD l 0 (0, 0) h0]; rfl)
            exact this
        refine Ev_to (Ev.bind ha (f := fun k t => (incipitref08_Twice.f k t).bind fun t266 => if t266 = true then some 8 else incipitref08_Check.l1 k (toR l) 1) (Ev.bind ht ?_)) fun k => ?_
        · exact Ev_as h1 fun k => by simp
        · simp only [incipitref08_Check.l0]
          rw [if_neg (by rw [toR_len]; omega), if_neg (by omega)]
      · rw [decide_eq_false hn] at ht
        rw [if_neg hn]
        refine Ev_to (Ev.bind ha (f := fun k t => (incipitref08_Twice.f k t).bind fun t266 => if t266 = true then some 8 else incipitref08_Check.l1 k (toR l) 1) (Ev.bind ht (Ev_eq fun k => by simp))) fun k => ?_
        simp only [incipitref08_Check.l0]
        rw [if_neg (by rw [toR_len]; omega), if_neg (by omega)]
  | succ d ih =>
    intro i hi hr
    have hrd := toR_rd l i (by omega)
    have ht := take_succ_getD l i (0, 0) (by omega)
    have hm := getD_mem l i (0, 0) (by omega)
    have hb := sumC_bound _ hr
    have hlt : (l.take i).length ≤ 4096 := by rw [List.length_take]; omega
    generalize l.getD i (0, 0) = e at *
    have hk1 := (hk e hm).i64
    have hbad : rightP e = false → chk l = 10 := fun h => by
      unfold chk
      rw [if_pos (List.any_eq_true.2 ⟨e, hm, by simp [h]⟩)]
    have hnr : ¬ (2 ≤ e.1 ∧ 1 ≤ e.2 ∧ e.1 < 2048 ∧ e.2 ≤ 2048 - e.1) → chk l = 10 := fun h => hbad (by
      cases hc : rightP e with
      | false => rfl
      | true => exact absurd ((rightP_iff e).1 hc) h)
    by_cases h1 : e.1 < 2
    · rw [hnr (by omega)]
      exact Ev_now fun k => by simp only [incipitref08_Check.l0, hrd]; rw [if_pos (by rw [toR_len]; omega), if_pos (by omega), if_pos h1]
    by_cases h2 : e.1 > 2047
    · rw [hnr (by omega)]
      exact Ev_now fun k => by simp only [incipitref08_Check.l0, hrd]; rw [if_pos (by rw [toR_len]; omega), if_pos (by omega), if_neg h1, if_pos h2]
    by_cases h3 : e.2 < 1
    · rw [hnr (by omega)]
      exact Ev_now fun k => by simp only [incipitref08_Check.l0, hrd]; rw [if_pos (by rw [toR_len]; omega), if_pos (by omega), if_neg h1, if_neg h2, if_pos h3]
    by_cases h4 : e.2 > 2048 - e.1
    · rw [hnr (by omega)]
      exact Ev_now fun k => by simp only [incipitref08_Check.l0, hrd]; rw [if_pos (by rw [toR_len]; omega), if_pos (by omega), if_neg h1, if_neg h2, if_neg h3, if_pos (by rw [w_id] <;> omega)]
    · refine Ev_to (ih (i + 1) (by omega) ?_) fun k => ?_
      · rw [ht]; intro x hx
        rcases List.mem_append.1 hx with h | h
        · exact hr x h
        · rw [List.mem_singleton.1 h, rightP_iff]; omega
      · simp only [incipitref08_Check.l0, hrd]
        rw [if_pos (by rw [toR_len]; omega), if_pos (by omega), if_neg h1, if_neg h2, if_neg h3, if_neg (by rw [w_id] <;> omega), w_succ i (by omega), ht, sumC_snoc, w_id (by omega) (by omega)]
theorem rcheck_f (l : List E) (hs : l.length ≤ 4096) (hk : ∀ e ∈ l, InK .i64 e.1) : Ev (fun k => incipitref08_Check.f k (toR l)) (chk l) := by
  have := rcheck_l0 l hs hk l.length 0 (by omega) (by simp)
  exact Ev_as this fun k => by unfold incipitref08_Check.f; rfl
theorem chk_right (l : List E) (h : chk l = 0) : (∀ e ∈ l, rightP e = true) ∧ sumC l ≤ 1024 ∧ (allP l).Nodup := by
  unfold chk at h
  split at h
  · cases h
  · rename_i h1
    split at h
    · cases h
    · rename_i h2
      split at h
      · rename_i h3
        refine ⟨fun e he => ?_, by omega, h3⟩
        cases hc : rightP e with
        | true => rfl
        | false => exact absurd (List.any_eq_true.2 ⟨e, he, by simp [hc]⟩) h1
      · cases h

/-! ### At, Find, Part -/
/-- Where a number stands first. -/
structure Idx (l : List Int) (a r : Int) : Prop where mk ::
  out : (∃ j : Nat, j < l.length ∧ r = (j : Int) ∧ l.getD j 0 = a) ∨ (r = -1 ∧ ¬ a ∈ l)
end Go.Proofs.Ytneliajeokajbaa.ExtBPure
