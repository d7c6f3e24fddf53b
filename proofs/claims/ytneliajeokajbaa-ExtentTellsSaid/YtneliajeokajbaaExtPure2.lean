/- Layer 8: the pure side: Of, Check, Pages, Count. -/
import Derived.Test.YtneliajeokajbaaExtPure
namespace Go.Proofs.Ytneliajeokajbaa.ExtPure
open Go.RowKit Go.Proofs.Ytneliajeokajbaa Go.Proofs.Ytneliajeokajbaa.PExt Go.Proofs.YtneliajeokajbaaW.PrintWords Go.Proofs.YtneliajeokajbaaW.PrintMore
set_option linter.unusedVariables false
/-! ### Lists of pages, one more at a time -/
def growP (acc : List E) (p : Int) : List E :=
  match acc.getLast? with
  | some e => if e.1 + e.2 = p then acc.dropLast ++ [(e.1, e.2 + 1)] else acc ++ [(p, 1)]
  | none => [(p, 1)]
def G (l : List Int) : List E := l.foldl growP []
theorem G_snoc (l : List Int) (p : Int) : G (l ++ [p]) = growP (G l) p := by unfold G; rw [List.foldl_append]; rfl
theorem grow_nil (p : Int) : growP [] p = [(p, 1)] := rfl
theorem grow_snoc (acc : List E) (e : E) (p : Int) : growP (acc ++ [e]) p = if e.1 + e.2 = p then acc ++ [(e.1, e.2 + 1)] else acc ++ [e] ++ [(p, 1)] := by
  unfold growP
  simp
def allP (es : List E) : List Int := es.flatMap fun e => (List.range e.2.toNat).map fun j : Nat => e.1 + (j : Int)
def sumC (es : List E) : Int := (es.map (·.2)).sum
def rightP (e : E) : Bool := decide (2 ≤ e.1) && decide (1 ≤ e.2) && decide (e.1 < 2048) && decide (e.2 ≤ 2048 - e.1)
theorem rightP_iff (e : E) : rightP e = true ↔ 2 ≤ e.1 ∧ 1 ≤ e.2 ∧ e.1 < 2048 ∧ e.2 ≤ 2048 - e.1 := by
  unfold rightP
  simp [and_assoc]
theorem allP_snoc (es : List E) (e : E) : allP (es ++ [e]) = allP es ++ (List.range e.2.toNat).map fun j : Nat => e.1 + (j : Int) := by unfold allP; simp
theorem sumC_snoc (es : List E) (e : E) : sumC (es ++ [e]) = sumC es + e.2 := by unfold sumC; simp
/-- No two neighbours join. -/
def apartP : List E → Bool
  | e :: f :: r => !decide (e.1 + e.2 = f.1) && apartP (f :: r)
  | _ => true
theorem apart_snoc (es : List E) (e f : E) : apartP (es ++ [e] ++ [f]) = (apartP (es ++ [e]) && !decide (e.1 + e.2 = f.1)) := by
  induction es with
  | nil => simp [apartP, Bool.and_comm]
  | cons a es ih =>
    cases es with
    | nil => simp [apartP]
    | cons b es =>
      simp only [List.cons_append, apartP]
      simp only [List.cons_append] at ih
      rw [ih, Bool.and_assoc]
theorem apart_last (es : List E) (e : E) (c : Int) : apartP (es ++ [(e.1, c)]) = apartP (es ++ [e]) := by
  rcases List.eq_nil_or_concat es with rfl | ⟨es, b, rfl⟩
  · rfl
  · rw [List.concat_eq_append, apart_snoc, apart_snoc]
/-- What is known of the list that pages give. -/
structure GOk (l : List Int) (es : List E) : Prop where
  all : allP es = l
  right : ∀ e ∈ es, rightP e = true
  apart : apartP es = true
  sum : sumC es = l.length
  len : es.length ≤ l.length
  last : l = [] ∧ es = [] ∨ ∃ acc e m p, es = acc ++ [e] ∧ l = m ++ [p] ∧ e.1 + e.2 = p + 1
theorem range_succ_map (n : Nat) (a : Int) : (List.range (n + 1)).map (fun j : Nat => a + (j : Int)) = (List.range n).map (fun j : Nat => a + (j : Int)) ++ [a + (n : Int)] := by rw [List.range_succ]; simp
theorem snocInd' {P : List Int → Prop} (h0 : P []) (h1 : ∀ l x, P l → P (l ++ [x])) (l : List Int) : P l := by
  have h : ∀ m : List Int, P m.reverse := fun m => by
    induction m with
    | nil => exact h0
    | cons x m ih => rw [List.reverse_cons]; exact h1 _ _ ih
  have := h l.reverse
  rwa [List.reverse_reverse] at this
theorem G_ok (l : List Int) : (∀ x ∈ l, pageIn x = true) → GOk l (G l) := by
  refine snocInd' (P := fun l => (∀ x ∈ l, pageIn x = true) → GOk l (G l)) (fun _ => ⟨rfl, (fun e he => by cases he), rfl, rfl, Nat.le_refl _, .inl ⟨rfl, rfl⟩⟩) (fun l p ih h => ?_) l
  have hk := ih fun x hx => h x (List.mem_append_left _ hx)
  have hp := h p (by simp)
  unfold pageIn at hp
  simp only [Bool.and_eq_true, decide_eq_true_eq] at hp
  rw [G_snoc]
  generalize G l = es at hk
  obtain ⟨h1, h2, h3, h4, h5, h6⟩ := hk
  rcases h6 with ⟨rfl, rfl⟩ | ⟨acc, e, m, q, rfl, rfl, h7⟩
  · rw [grow_nil]
    refine ⟨by simp [allP], ?_, rfl, rfl, Nat.le_refl _, .inr ⟨[], (p, 1), [], p, rfl, rfl, rfl⟩⟩
    intro e he
    rw [List.mem_singleton.1 he, rightP_iff]
    simp only
    omega
  · rw [grow_snoc]
    have he := h2 e (by simp)
    rw [rightP_iff] at he
    by_cases hj : e.1 + e.2 = p
    · rw [if_pos hj]
      obtain ⟨n, hn⟩ := Int.eq_ofNat_of_zero_le (show 0 ≤ e.2 by omega)
      refine ⟨?_, ?_, ?_, ?_, ?_, .inr ⟨acc, (e.1, e.2 + 1), m ++ [q], p, rfl, rfl, by simp only; omega⟩⟩
      · rw [allP_snoc] at h1 ⊢
        rw [← h1]
        simp only
        rw [hn, show ((n : Int) + 1).toNat = n + 1 by omega, range_succ_map, Int.toNat_natCast, ← List.append_assoc]
        congr 2
        omega
      · intro f hf
        rcases List.mem_append.1 hf with hf | hf
        · exact h2 f (List.mem_append_left _ hf)
        · rw [List.mem_singleton.1 hf, rightP_iff]
          simp only
          omega
      · rw [apart_last]; exact h3
      · rw [sumC_snoc] at h4 ⊢
        simp only [List.length_append, List.length_singleton] at h4 ⊢
        omega
      · simp only [List.length_append, List.length_singleton] at h5 ⊢
        omega
    · rw [if_neg hj]
      refine ⟨?_, ?_, ?_, ?_, ?_, .inr ⟨acc ++ [e], (p, 1), m ++ [q], p, rfl, rfl, rfl⟩⟩
      · rw [allP_snoc, h1]; simp
      · intro f hf
        rcases List.mem_append.1 hf with hf | hf
        · exact h2 f hf
        · rw [List.mem_singleton.1 hf, rightP_iff]
          simp only
          omega
      · rw [apart_snoc, h3]; simp [hj]
      · rw [sumC_snoc, h4]; simp; omega
      · simp only [List.length_append, List.length_singleton] at h5 ⊢
        omega

/-! ### Of -/
theorem toE_snoc (l : List E) (e : E) : toE (l ++ [e]) = toE l ++ [⟨e.1, e.2⟩] := by simp [toE]
theorem toR_snoc (l : List E) (e : E) : toR (l ++ [e]) = toR l ++ [⟨e.1, e.2⟩] := by simp [toR]
theorem set_snoc {α : Type} (l : List α) (a b : α) (n : Nat) (h : n = l.length) : (l ++ [a]).set n b = l ++ [b] := by subst h; simp
theorem take_in {l : List Int} (h : ∀ x ∈ l, pageIn x = true) (i : Nat) : ∀ x ∈ l.take i, pageIn x = true := fun x hx => h x (List.mem_of_mem_take hx)
theorem Of_l (l : List Int) (hs : l.length ≤ 4096) (hin : ∀ x ∈ l, pageIn x = true) : ∀ d i : Nat, i + d = l.length → Ev (fun k => extent_Of.l0 k (toE (G (l.take i))) l (l.length : Int) (i : Int)) (toE (G l), 0) := by
  intro d
  induction d with
  | zero =>
    intro i hi
    rw [List.take_of_length_le (by omega)]
    exact Ev_now fun k => by simp only [extent_Of.l0]; rw [if_neg (by omega)]
  | succ d ih =>
    intro i hi
    have hk := G_ok (l.take i) (take_in hin i)
    have hnext := ih (i + 1) (by omega)
    rw [take_succ_getD l i 0 (by omega), G_snoc] at hnext
    have hrd : rd l (i : Int) = l.getD i 0 := rfl
    generalize hp : l.getD i 0 = p at *
    have hpi := hin p (by rw [← hp]; exact getD_mem l i 0 (by omega))
    unfold pageIn at hpi
    simp only [Bool.and_eq_true, decide_eq_true_eq] at hpi
    have hlen := hk.len
    rw [List.length_take] at hlen
    rcases hk.last with ⟨h1, h2⟩ | ⟨acc, e, m, q, h2, _, _⟩
    · rw [h2] at hnext ⊢
      rw [grow_nil] at hnext
      exact Ev_to hnext fun k => by
        simp only [extent_Of.l0]
        rw [if_pos (by omega), if_pos (by omega), if_pos (by omega), if_neg (by simp [toE]), if_pos (by simp [toE]), hrd, w_succ i (by omega)]
        rfl
    · rw [h2] at hnext ⊢ hlen
      have he := hk.right e (by rw [h2]; simp)
      rw [rightP_iff] at he
      rw [grow_snoc] at hnext
      have hL : ((toE (acc ++ [e])).length : Int) = (acc.length : Int) + 1 := by rw [toE_len]; simp
      have hW : wrap64 (((toE (acc ++ [e])).length : Int) - 1) = (acc.length : Int) := by rw [hL, w_id] <;> simp at hlen <;> omega
      have hR : rd_T107 (toE (acc ++ [e])) (acc.length : Int) = ⟨e.1, e.2⟩ := by rw [toE_rd _ _ (by simp)]; simp
      simp only [List.length_append, List.length_singleton] at hlen
      by_cases hj : e.1 + e.2 = p
      · rw [if_pos hj] at hnext
        refine Ev_to hnext fun k => ?_
        simp only [extent_Of.l0, hW, hR]
        rw [if_pos (by omega), if_pos (by omega), if_pos (by omega), if_pos (by rw [hL]; omega), if_pos (by omega), if_pos (by rw [hL]; omega)]
        unfold extent_Extent_end.f
        simp only [Option.bind_some]
        rw [if_pos (by rw [hrd, w_id] <;> omega), w_succ i (by omega), toE_snoc, set_snoc _ _ _ _ (by simp [toE]), w_id (by omega) (by omega), toE_snoc]
      · rw [if_neg hj] at hnext
        refine Ev_to hnext fun k => ?_
        simp only [extent_Of.l0, hW, hR]
        rw [if_pos (by omega), if_pos (by omega), if_pos (by omega), if_pos (by rw [hL]; omega), if_pos (by omega), if_pos (by rw [hL]; omega)]
        unfold extent_Extent_end.f
        simp only [Option.bind_some]
        rw [if_neg (by rw [hrd, w_id] <;> omega), if_pos (by rw [toE_len]; simp; omega), w_succ i (by omega), toE_snoc _ (p, 1), hrd]
theorem pagesErr_zero (l : List Int) (h : pagesErr l = 0) : (∀ x ∈ l, pageIn x = true) ∧ l.length ≤ 1024 ∧ l.Nodup := by
  unfold pagesErr at h
  split at h
  · cases h
  · rename_i h1
    split at h
    · cases h
    · rename_i h2
      split at h
      · rename_i h3
        exact ⟨any_not_all l pageIn (by simpa using h1), by omega, h3⟩
      · cases h
theorem Of_f (l : List Int) (hk : ∀ x ∈ l, InK .i64 x) : Ev (fun k => extent_Of.f k l) (if pagesErr l = 0 then (toE (G l), 0) else ([], pagesErr l)) := by
  have hp : extent_pages.f l = some (pagesErr l) := by unfold extent_pages.f; rw [if_pos (inKs_mk hk)]
  by_cases h : pagesErr l = 0
  · rw [if_pos h]
    obtain ⟨h1, h2, h3⟩ := pagesErr_zero l h
    have := Of_l l (by omega) h1 l.length 0 (by omega)
    exact Ev_as this fun k => by unfold extent_Of.f; rw [hp, Option.bind_some, if_pos h]; rfl
  · rw [if_neg h]
    exact Ev_eq fun k => by unfold extent_Of.f; rw [hp, Option.bind_some, if_neg h]
theorem refOf_l1 (l : List Int) (hs : l.length ≤ 4096) (hin : ∀ x ∈ l, pageIn x = true) : ∀ d i : Nat, i + d = l.length → Ev (fun k => incipitref08_Of.l1 k l (toR (G (l.take i))) (i : Int)) (toR (G l), 0) := by
  intro d
  induction d with
  | zero =>
    intro i hi
    rw [List.take_of_length_le (by omega)]
    exact Ev_now fun k => by simp only [incipitref08_Of.l1]; rw [if_neg (by omega)]
  | succ d ih =>
    intro i hi
    have hk := G_ok (l.take i) (take_in hin i)
    have hnext := ih (i + 1) (by omega)
    rw [take_succ_getD l i 0 (by omega), G_snoc] at hnext
    have hrd : rd l (i : Int) = l.getD i 0 := rfl
    generalize hp : l.getD i 0 = p at *
    have hpi := hin p (by rw [← hp]; exact getD_mem l i 0 (by omega))
    unfold pageIn at hpi
    simp only [Bool.and_eq_true, decide_eq_true_eq] at hpi
    have hlen := hk.len
    rw [List.length_take] at hlen
    rcases hk.last with ⟨h1, h2⟩ | ⟨acc, e, m, q, h2, h3, h4⟩
    · have hi0 : i = 0 := by
        have := congrArg List.length h1
        rw [List.length_take, List.length_nil] at this
        omega
      subst hi0
      rw [h2] at hnext ⊢
      rw [grow_nil] at hnext
      exact Ev_to hnext fun k => by
        simp only [incipitref08_Of.l1]
        rw [if_pos (by omega), if_neg (by omega), if_pos (by omega), if_pos (by simp [toR]), hrd, w_succ 0 (by omega)]
        rfl
    · have hi1 : i = m.length + 1 := by
        have := congrArg List.length h3
        rw [List.length_take, List.length_append, List.length_singleton] at this
        omega
      have hq : rd l ((i - 1 : Nat) : Int) = q := by
        rw [rd_nat]
        have h5 : (l.take i).getD (i - 1) 0 = q := by rw [h3, hi1]; simp
        rw [← h5, List.getD_eq_getElem?_getD, List.getD_eq_getElem?_getD, List.getElem?_take, if_pos (by omega)]
      rw [h2] at hnext ⊢ hlen
      have he := hk.right e (by rw [h2]; simp)
      rw [rightP_iff] at he
      rw [grow_snoc] at hnext
      have hL : ((toR (acc ++ [e])).length : Int) = (acc.length : Int) + 1 := by rw [toR_len]; simp
      have hW : wrap64 (((toR (acc ++ [e])).length : Int) - 1) = (acc.length : Int) := by rw [hL, w_id] <;> simp at hlen <;> omega
      have hR : rd_T96 (toR (acc ++ [e])) (acc.length : Int) = ⟨e.1, e.2⟩ := by rw [toR_rd _ _ (by simp)]; simp
      have hWi : wrap64 ((i : Int) - 1) = ((i - 1 : Nat) : Int) := by rw [w_id] <;> omega
      simp only [List.length_append, List.length_singleton] at hlen
      by_cases hj : e.1 + e.2 = p
      · rw [if_pos hj] at hnext
        refine Ev_to hnext fun k => ?_
        simp only [incipitref08_Of.l1, hW, hR, hWi, hq, hrd]
        rw [if_pos (by omega), if_pos (by omega), if_pos (by omega), if_pos (by omega), if_pos (by omega), if_pos (by rw [w_id] <;> omega), if_pos (by omega), if_pos (by rw [hL]; omega), w_succ i (by omega), toR_snoc, set_snoc _ _ _ _ (by simp [toR]), w_id (by omega) (by omega), toR_snoc]
      · rw [if_neg hj] at hnext
        refine Ev_to hnext fun k => ?_
        simp only [incipitref08_Of.l1, hW, hR, hWi, hq, hrd]
        rw [if_pos (by omega), if_pos (by omega), if_pos (by omega), if_pos (by omega), if_pos (by omega), if_neg (by rw [w_id] <;> omega), if_pos (by rw [toR_len]; simp; omega), w_succ i (by omega), toR_snoc _ (p, 1)]
theorem refOf_l0 (l : List Int) (hs : l.length ≤ 1000000) : ∀ d i : Nat, i + d = l.length → (∀ x ∈ l.take i, pageIn x = true) → Ev (fun k => incipitref08_Of.l0 k l (i : Int)) (if pagesErr l = 0 then (toR (G l), 0) else ([], pagesErr l)) := by
  intro d
  induction d with
  | zero =>
    intro i hi hin
    rw [List.take_of_length_le (by omega)] at hin
    have hany : l.any (fun p => !pageIn p) = false := by rw [List.any_eq_false]; intro x hx; simp [hin x hx]
    by_cases hl : 1024 < l.length
    · have hp : pagesErr l = 2 := by unfold pagesErr; rw [hany, if_pos hl]; rfl
      rw [hp, if_neg (by decide)]
      exact Ev_now fun k => by simp only [incipitref08_Of.l0]; rw [if_neg (by omega), if_pos (by omega)]
    · have hp : pagesErr l = if l.Nodup then 0 else 8 := by unfold pagesErr; rw [hany, if_neg hl]; rfl
      have ht := twice l (by omega) fun x hx => by have := hin x hx; unfold pageIn at this; simp at this; omega
      by_cases hn : l.Nodup
      · rw [hp, if_pos hn, if_pos rfl]
        rw [decide_eq_true hn] at ht
        have h1 := refOf_l1 l (by omega) hin l.length 0 (by omega)
        exact Ev_to (Ev.bind ht (f := fun k b => if b = true then some (([] : List S96), 8) else incipitref08_Of.l1 k l [] 0) (Ev_as h1 fun k => by simp; rfl)) fun k => by simp only [incipitref08_Of.l0]; rw [if_neg (by omega), if_neg (by omega)]
      · rw [hp, if_neg hn, if_neg (by decide)]
        rw [decide_eq_false hn] at ht
        exact Ev_to (Ev.bind ht (f := fun k b => if b = true then some (([] : List S96), 8) else incipitref08_Of.l1 k l [] 0) (Ev_eq fun k => by simp)) fun k => by simp only [incipitref08_Of.l0]; rw [if_neg (by omega), if_neg (by omega)]
  | succ d ih =>
    intro i hi hin
    have hrd : rd l (i : Int) = l.getD i 0 := rfl
    have ht := take_succ_getD l i 0 (by omega)
    have hm := getD_mem l i 0 (by omega)
    generalize l.getD i 0 = p at *
    by_cases hp : pageIn p = true
    · refine Ev_to (ih (i + 1) (by omega) ?_) fun k => ?_
      · rw [ht]; intro x hx
        rcases List.mem_append.1 hx with h | h
        · exact hin x h
        · rw [List.mem_singleton.1 h]; exact hp
      · unfold pageIn at hp
        simp only [Bool.and_eq_true, decide_eq_true_eq] at hp
        simp only [incipitref08_Of.l0, hrd]
        rw [if_pos (by omega), if_pos (by omega), if_neg (by omega), if_neg (by omega), w_succ i (by omega)]
    · have he : pagesErr l = 10 := by
        unfold pagesErr
        rw [show l.any (fun p => !pageIn p) = true from List.any_eq_true.2 ⟨p, hm, by simpa using hp⟩]
        rfl
      rw [he, if_neg (by decide)]
      unfold pageIn at hp
      simp only [Bool.and_eq_true, decide_eq_true_eq] at hp
      refine Ev_now fun k => ?_
      simp only [incipitref08_Of.l0, hrd]
      rw [if_pos (by omega), if_pos (by omega)]
      by_cases h2 : p < 2
      · rw [if_pos h2]
      · rw [if_neg h2, if_pos (by omega)]
theorem refOf_f (l : List Int) (hs : l.length ≤ 1000000) : Ev (fun k => incipitref08_Of.f k l) (if pagesErr l = 0 then (toR (G l), 0) else ([], pagesErr l)) := by
  have := refOf_l0 l hs l.length 0 (by omega) (by simp)
  exact Ev_as this fun k => by unfold incipitref08_Of.f; rfl
end Go.Proofs.Ytneliajeokajbaa.ExtPure
