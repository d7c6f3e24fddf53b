/- Layer 15: the pure side: what is a text; the order that is right. -/
import Derived.Test.YthkofhidhghmmaaSufPure1
import Derived.Test.YthkofhidhghmmaaPSufx5
namespace Go.Proofs.Ythkofhidhghmmaa.SufPure
open Go.RowKit Go.Proofs.Ythkofhidhghmmaa Go.Proofs.Ythkofhidhghmmaa.PSuf Go.Proofs.YthkofhidhghmmaaW.PrintWords Go.Proofs.YthkofhidhghmmaaW.PrintMore
set_option linter.unusedVariables false

/-! ### what is a text -/
theorem index_l (l : List Int) (hb : l.length < 1000000) (v : Int) : ∀ d i : Nat, i + d = l.length → v ∉ l.take i → Ev (fun k => slices_Index_int_int.l0 k l v (l.length : Int) (i : Int)) (if v ∈ l then (l.idxOf v : Int) else -1) := by
  intro d
  induction d with
  | zero =>
    intro i hi hn
    rw [List.take_of_length_le (by omega)] at hn
    rw [if_neg hn]
    exact Ev_now fun k => by simp only [slices_Index_int_int.l0]; rw [if_neg (by omega)]
  | succ d ih =>
    intro i hi hn
    by_cases e : v = l.getD i 0
    · have hm := getD_mem l i 0 (by omega)
      have hx : l.idxOf v = i := by
        conv => lhs; rw [← List.take_append_drop i l]
        rw [List.idxOf_append, if_neg hn, drop_cons l i 0 (by omega), ← e, List.idxOf_cons_self, List.length_take]
        omega
      rw [if_pos (by rw [e]; exact hm), hx]
      exact Ev_now fun k => by
        simp only [slices_Index_int_int.l0]
        rw [if_pos (by omega), if_pos (by omega), if_pos (by omega), if_pos (by rw [rd_nat]; exact e)]
    · refine Ev_to (ih (i + 1) (by omega) ?_) fun k => ?_
      · rw [take_succ_getD l i 0 (by omega)]
        simp only [List.mem_append, List.mem_singleton, not_or]
        exact ⟨hn, e⟩
      · simp only [slices_Index_int_int.l0]
        rw [if_pos (by omega), if_pos (by omega), if_pos (by omega), if_neg (by rw [rd_nat]; exact e), w_succ i (by omega)]
theorem index (l : List Int) (hb : l.length < 1000000) (v : Int) : Ev (fun k => slices_Index_int_int.f k l v) (if v ∈ l then (l.idxOf v : Int) else -1) := index_l l hb v l.length 0 (by omega) (by simp)
/-- Codes, and a nought at the end alone. -/
structure Txt (l : List Int) : Prop where
  rng : ∀ x ∈ l, 0 ≤ x ∧ x < 65536
  last : ∀ i : Nat, i < l.length → (l.getD i 0 = 0 ↔ i + 1 = l.length)
  pos : 0 < l.length
def chk (l : List Int) : Int := if l.any badCode = true then 10 else if (if (0 : Int) ∈ l then (l.idxOf 0 : Int) else -1) = (l.length : Int) - 1 then (if l.length = 0 then 3 else 0) else 3
theorem txt_iff (l : List Int) : chk l = 0 ↔ Txt l := by
  unfold chk
  have hbad : l.any badCode = true ↔ ¬ ∀ x ∈ l, 0 ≤ x ∧ x < 65536 := by
    rw [List.any_eq_true]
    constructor
    · rintro ⟨x, hx, hb⟩ h
      have := h x hx
      unfold badCode at hb
      simp at hb
      omega
    · intro h
      refine Classical.byContradiction fun hn => h fun x hx => Classical.byContradiction fun h2 => hn ⟨x, hx, ?_⟩
      unfold badCode
      simp
      omega
  by_cases h1 : l.any badCode = true
  · rw [if_pos h1]
    exact ⟨fun h => absurd h (by decide), fun h => absurd h.rng (hbad.1 h1)⟩
  · rw [if_neg h1]
    have hr : ∀ x ∈ l, 0 ≤ x ∧ x < 65536 := Classical.byContradiction fun h => h1 (hbad.2 h)
    by_cases h2 : (0 : Int) ∈ l
    · rw [if_pos h2]
      have hlt := List.idxOf_lt_length_iff.2 h2
      by_cases h3 : (l.idxOf (0 : Int) : Int) = (l.length : Int) - 1
      · rw [if_pos h3, if_neg (by omega)]
        refine ⟨fun _ => ⟨hr, fun i hi => ⟨fun e => ?_, fun e => ?_⟩, by omega⟩, fun _ => rfl⟩
        · refine Classical.byContradiction fun hne => ?_
          have hlt2 : i < l.idxOf (0 : Int) := by omega
          have := List.not_of_lt_findIdx (p := (· == (0 : Int))) (xs := l) hlt2
          rw [getD_lt l i 0 hi] at e
          simp [e] at this
        · have := idxOf_getD h2
          rwa [show l.idxOf (0 : Int) = i by omega] at this
      · rw [if_neg h3]
        refine ⟨fun h => absurd h (by decide), fun h => ?_⟩
        have := (h.last _ hlt).1 (idxOf_getD h2)
        omega
    · rw [if_neg h2]
      by_cases h3 : (-1 : Int) = (l.length : Int) - 1
      · rw [if_pos h3, if_pos (by omega)]
        exact ⟨fun h => absurd h (by decide), fun h => absurd h.pos (by omega)⟩
      · rw [if_neg h3]
        refine ⟨fun h => absurd h (by decide), fun h => absurd ?_ h2⟩
        have h4 := (h.last (l.length - 1) (by have := h.pos; omega)).2 (by have := h.pos; omega)
        rw [← h4]
        exact getD_mem l _ 0 (by have := h.pos; omega)
instance (l : List Int) : Decidable (Txt l) := decidable_of_iff _ (txt_iff l)
theorem inKs_true {l : List Int} (h : ∀ x ∈ l, (Lit.int .i64 x).wf = true) : inKs .i64 l = true := List.all_eq_true.2 h
theorem check (l : List Int) (hb : l.length ≤ 65536) (hw : ∀ x ∈ l, (Lit.int .i64 x).wf = true) : Ev (fun k => suffix_Check.f k l) (chk l) := by
  unfold suffix_Check.f
  simp only [if_neg (show ¬ 65536 < l.length by omega), if_pos (inKs_true hw)]
  unfold chk
  by_cases h1 : l.any badCode = true
  · simp only [if_pos h1]; exact Ev.now _
  · simp only [if_neg h1]
    refine Ev.bind (index l (by omega) 0) ?_
    by_cases h3 : (if (0 : Int) ∈ l then (l.idxOf 0 : Int) else -1) = (l.length : Int) - 1
    · simp only [if_pos h3]
      by_cases h0 : l.length = 0
      · simp only [if_pos h0]; exact Ev.now _
      · simp only [if_neg h0]; exact Ev.now _
    · simp only [if_neg h3]; exact Ev.now _

/-! ### how a suffix is against another one -/
theorem cmpI (a b : Int) : cmp_Compare_int.f a b = some (if a < b then -1 else if b < a then 1 else 0) := by
  unfold cmp_Compare_int.f cmp_isNaN_int.f
  simp only [bne_self_eq_false, Option.bind_some, if_neg (show ¬ false = true by decide)]
  by_cases h : a < b
  · rw [if_pos h, if_pos h]
  · rw [if_neg h, if_neg h]
    by_cases h2 : b < a
    · rw [if_pos (show a > b from h2), if_pos h2]
    · rw [if_neg (show ¬ a > b from h2), if_neg h2]
theorem compare_l (a b : List Int) (hb : a.length < 1000000) : ∀ d i : Nat, i + d = a.length → i ≤ b.length → Ev (fun k => slices_Compare_int_int.l0 k a b a (a.length : Int) (i : Int)) (lexC (a.drop i) (b.drop i)) := by
  intro d
  induction d with
  | zero =>
    intro i hi hib
    rw [List.drop_of_length_le (by omega)]
    by_cases h : i < b.length
    · rw [drop_cons b i 0 h]
      exact Ev_now fun k => by simp only [slices_Compare_int_int.l0]; rw [if_neg (by omega), if_pos (by omega)]; rfl
    · rw [List.drop_of_length_le (by omega)]
      exact Ev_now fun k => by simp only [slices_Compare_int_int.l0]; rw [if_neg (by omega), if_neg (by omega)]; rfl
  | succ d ih =>
    intro i hi hib
    rw [drop_cons a i 0 (by omega)]
    by_cases h : i < b.length
    · rw [drop_cons b i 0 h]
      unfold lexC
      by_cases h1 : a.getD i 0 < b.getD i 0
      · rw [if_pos h1]
        exact Ev_now fun k => by
          simp only [slices_Compare_int_int.l0]
          rw [if_pos (by omega), if_pos (by omega), if_pos (by omega), if_neg (by omega), if_pos (by omega), cmpI, rd_nat, rd_nat, if_pos h1, Option.bind_some, if_neg (by decide)]
      · by_cases h2 : b.getD i 0 < a.getD i 0
        · rw [if_neg h1, if_pos h2]
          exact Ev_now fun k => by
            simp only [slices_Compare_int_int.l0]
            rw [if_pos (by omega), if_pos (by omega), if_pos (by omega), if_neg (by omega), if_pos (by omega), cmpI, rd_nat, rd_nat, if_neg h1, if_pos h2, Option.bind_some, if_neg (by decide)]
        · rw [if_neg h1, if_neg h2]
          exact Ev_to (ih (i + 1) (by omega) (by omega)) fun k => by
            simp only [slices_Compare_int_int.l0]
            rw [if_pos (by omega), if_pos (by omega), if_pos (by omega), if_neg (by omega), if_pos (by omega), cmpI, rd_nat, rd_nat, if_neg h1, if_neg h2, Option.bind_some, if_pos rfl, w_succ i (by omega)]
    · rw [List.drop_of_length_le (l := b) (by omega)]
      exact Ev_now fun k => by
        simp only [slices_Compare_int_int.l0]
        rw [if_pos (by omega), if_pos (by omega), if_pos (by omega), if_pos (by omega)]; rfl
theorem compare (a b : List Int) (hb : a.length < 1000000) : Ev (fun k => slices_Compare_int_int.f k a b) (lexC a b) := by
  have := compare_l a b hb a.length 0 (by omega) (by omega)
  rwa [List.drop_zero, List.drop_zero] at this
theorem order (l : List Int) (hb : l.length < 1000000) (i j : Nat) (hi : i ≤ l.length) (hj : j ≤ l.length) : Ev (fun k => suffix_order.f k l (i : Int) (j : Int)) (cmpS l i j) := by
  unfold suffix_order.f
  simp only [if_pos (show (0 : Int) ≤ i by omega), if_pos (show (i : Int) ≤ l.length by omega), if_pos (show (0 : Int) ≤ j by omega), if_pos (show (j : Int) ≤ l.length by omega), Int.toNat_natCast]
  exact Ev.bind (compare _ _ (by rw [List.length_drop]; omega)) (Ev.now _)
theorem Ev.all {g : Nat → Nat → Bool} {n : Nat} (h : ∀ i, i < n → ∃ K, ∀ k, K ≤ k → g k i = true) : ∃ K, ∀ k, K ≤ k → (List.range n).all (g k) = true := by
  induction n with
  | zero => exact ⟨0, fun k _ => rfl⟩
  | succ n ih =>
    obtain ⟨K, hK⟩ := ih fun i hi => h i (by omega)
    obtain ⟨M, hM⟩ := h n (by omega)
    refine ⟨K + M, fun k hk => ?_⟩
    rw [List.range_succ, List.all_append, hK k (by omega)]
    simp [hM k (by omega)]
theorem sort_ok (l : List Int) (hb : l.length < 1000000) : ∃ K, ∀ k, K ≤ k → suffix_Sort.ok k l = true := by
  unfold suffix_Sort.ok
  refine Ev.all fun i hi => Ev.all fun j hj => ?_
  obtain ⟨K, hK⟩ := order l hb i j (by omega) (by omega)
  exact ⟨K, fun k hk => decide_eq_true (hK k hk)⟩
theorem sort (l : List Int) (hb : l.length ≤ 65536) (hw : ∀ x ∈ l, (Lit.int .i64 x).wf = true) : Ev (fun k => suffix_Sort.f k l) (if Txt l then (sortS l, 0) else ([], chk l)) := by
  unfold suffix_Sort.f
  refine Ev.bind (check l hb hw) ?_
  simp only [if_pos (inKs_true hw)]
  by_cases h : Txt l
  · simp only [if_pos ((txt_iff l).2 h), if_pos h]
    obtain ⟨K, hK⟩ := sort_ok l (by omega)
    have hp := h.pos
    refine ⟨K, fun k hk => ?_⟩
    have h2 : (decide (l.length ≤ 65536) && !l.isEmpty && suffix_Sort.ok k l) = true := by
      rw [hK k hk]
      cases l with
      | nil => simp at hp
      | cons a t => simp at hb ⊢; omega
    simp only [h2, if_true]
  · simp only [if_neg (fun e => h ((txt_iff l).1 e)), if_neg h]
    exact Ev.now _

/-! ### right -/
/-- Two neighbours of an order. -/
def okN (x l : List Int) (i : Nat) : Prop := ¬ (x.getD (l.getD (i - 1) 0).toNat 0 > x.getD (l.getD i 0).toNat 0 ∨ x.getD (l.getD (i - 1) 0).toNat 0 = x.getD (l.getD i 0).toNat 0 ∧ (outOf l.length l).getD ((l.getD (i - 1) 0).toNat + 1) 0 > (outOf l.length l).getD ((l.getD i 0).toNat + 1) 0)
instance (x l : List Int) (i : Nat) : Decidable (okN x l i) := by unfold okN; infer_instance
theorem good_nat {l : List Int} (h : Good l) (i : Nat) (hi : i < l.length) : ∃ a : Nat, l.getD i 0 = (a : Int) ∧ a < l.length := by
  have := h.2 _ (getD_mem l i 0 hi)
  exact ⟨(l.getD i 0).toNat, by omega, by omega⟩
theorem good_inj {l : List Int} (h : Good l) {i j : Nat} (hi : i < l.length) (hj : j < l.length) (e : l.getD i 0 = l.getD j 0) : i = j := by
  rw [getD_lt _ _ _ hi, getD_lt _ _ _ hj] at e
  have hp := List.pairwise_iff_getElem.1 h.1
  rcases Nat.lt_trichotomy i j with h1 | h1 | h1
  · exact absurd e (hp i j hi hj h1)
  · exact h1
  · exact absurd e.symm (hp j i hj hi h1)
theorem right_l {x l : List Int} (hx : Txt x) (hg : Good l) (hl : l.length = x.length) (hb : x.length ≤ 65536) : ∀ d i : Nat, i + d = l.length → 1 ≤ i → (∀ j, 1 ≤ j → j < i → okN x l j) →
    Ev (fun k => suffix_Right.l0 k x l (outOf l.length l) (i : Int)) (decide (∀ j, j < l.length → 1 ≤ j → okN x l j)) := by
  intro d
  induction d with
  | zero =>
    intro i hi h1 hok
    rw [decide_eq_true (fun j h1 h2 => hok j h2 (by omega))]
    exact Ev_now fun k => by simp only [suffix_Right.l0]; rw [if_neg (by omega)]
  | succ d ih =>
    intro i hi h1 hok
    obtain ⟨a, ha, hal⟩ := good_nat hg (i - 1) (by omega)
    obtain ⟨b, hbb, hbl⟩ := good_nat hg i (by omega)
    have hw1 : wrap64 ((i : Int) - 1) = ((i - 1 : Nat) : Int) := by rw [w_id] <;> omega
    have hne : a ≠ b := fun e => by
      have := good_inj hg (i := i - 1) (j := i) (by omega) (by omega) (by rw [ha, hbb, e])
      omega
    have hof : okN x l i ↔ ¬ (x.getD a 0 > x.getD b 0 ∨ x.getD a 0 = x.getD b 0 ∧ (outOf l.length l).getD (a + 1) 0 > (outOf l.length l).getD (b + 1) 0) := by
      unfold okN
      rw [ha, hbb, Int.toNat_natCast, Int.toNat_natCast]
    have hno : ¬ okN x l i → decide (∀ j, j < l.length → 1 ≤ j → okN x l j) = false := fun h => decide_eq_false fun h2 => h (h2 i (by omega) h1)
    have hnext : okN x l i → Ev (fun k => suffix_Right.l0 k x l (outOf l.length l) ((i + 1 : Nat) : Int)) (decide (∀ j, j < l.length → 1 ≤ j → okN x l j)) := fun h => ih (i + 1) (by omega) (by omega) fun j h1 h2 => by
      by_cases e : j = i
      · rw [e]; exact h
      · exact hok j h1 (by omega)
    by_cases h2 : x.getD a 0 > x.getD b 0
    · rw [hno (fun h => hof.1 h (.inl h2))]
      exact Ev_now fun k => by
        simp only [suffix_Right.l0]
        rw [if_pos (by omega), hw1, if_pos (by omega), if_pos (by omega), if_pos (by omega), rd_nat l, rd_nat l, ha, hbb, if_pos (by omega), if_pos (by omega), if_pos (by omega), if_pos (by omega), if_pos (by rw [rd_nat, rd_nat]; exact h2)]
    · by_cases h3 : x.getD a 0 = x.getD b 0
      · have ha1 : a + 1 < l.length := Classical.byContradiction fun hn => by
          have e1 := (hx.last a (by omega)).2 (by omega)
          have e2 := (hx.last b (by omega)).1 (by omega)
          omega
        have hb1 : b + 1 < l.length := Classical.byContradiction fun hn => by
          have e1 := (hx.last b (by omega)).2 (by omega)
          have e2 := (hx.last a (by omega)).1 (by omega)
          omega
        by_cases h4 : (outOf l.length l).getD (a + 1) 0 > (outOf l.length l).getD (b + 1) 0
        · rw [hno (fun h => hof.1 h (.inr ⟨h3, h4⟩))]
          exact Ev_now fun k => by
            simp only [suffix_Right.l0]
            rw [if_pos (by omega), hw1, if_pos (by omega), if_pos (by omega), if_pos (by omega), rd_nat l, rd_nat l, ha, hbb, if_pos (by omega), if_pos (by omega), if_pos (by omega), if_pos (by omega), if_neg (by rw [rd_nat, rd_nat]; exact h2), if_pos (by rw [rd_nat, rd_nat]; exact h3), w_succ a (by omega), w_succ b (by omega), if_pos (by omega), if_pos (by rw [outOf_len]; omega), if_pos (by omega), if_pos (by rw [outOf_len]; omega), if_pos (by rw [rd_nat, rd_nat]; exact h4)]
        · exact Ev_to (hnext (hof.2 fun h => by rcases h with h | h; exact h2 h; exact h4 h.2)) fun k => by
            simp only [suffix_Right.l0]
            rw [if_pos (by omega), hw1, if_pos (by omega), if_pos (by omega), if_pos (by omega), rd_nat l, rd_nat l, ha, hbb, if_pos (by omega), if_pos (by omega), if_pos (by omega), if_pos (by omega), if_neg (by rw [rd_nat, rd_nat]; exact h2), if_pos (by rw [rd_nat, rd_nat]; exact h3), w_succ a (by omega), w_succ b (by omega), if_pos (by omega), if_pos (by rw [outOf_len]; omega), if_pos (by omega), if_pos (by rw [outOf_len]; omega), if_neg (by rw [rd_nat, rd_nat]; exact h4), w_succ i (by omega)]
      · exact Ev_to (hnext (hof.2 fun h => by rcases h with h | h; exact h2 h; exact h3 h.1)) fun k => by
          simp only [suffix_Right.l0]
          rw [if_pos (by omega), hw1, if_pos (by omega), if_pos (by omega), if_pos (by omega), rd_nat l, rd_nat l, ha, hbb, if_pos (by omega), if_pos (by omega), if_pos (by omega), if_pos (by omega), if_neg (by rw [rd_nat, rd_nat]; exact h2), if_neg (by rw [rd_nat, rd_nat]; exact h3), w_succ i (by omega)]
def RightP (x l : List Int) : Prop := Good l ∧ l.length = x.length ∧ Txt x ∧ ∀ j, j < l.length → 1 ≤ j → okN x l j
instance (x l : List Int) : Decidable (RightP x l) := by unfold RightP; infer_instance
theorem right (x l : List Int) (hb : x.length ≤ 65536) (hbl : l.length ≤ 65536) (hw : ∀ z ∈ x, (Lit.int .i64 z).wf = true) : Ev (fun k => suffix_Right.f k x l) (decide (RightP x l)) := by
  unfold suffix_Right.f
  refine Ev.bind (turned l (by omega)) ?_
  unfold turnedR
  by_cases hG : Good l
  · rw [if_pos hG]
    simp only [if_true]
    by_cases hl : l.length = x.length
    · simp only [if_pos (show (l.length : Int) = (x.length : Int) by omega)]
      refine Ev.bind (check x hb hw) ?_
      by_cases hx : Txt x
      · rw [(txt_iff x).2 hx]
        have h := right_l hx hG hl hb (l.length - 1) 1 (by have := hx.pos; omega) (by omega) (fun j h1 h2 => by omega)
        rw [show decide (RightP x l) = decide (∀ j, j < l.length → 1 ≤ j → okN x l j) from decide_eq_decide.2 ⟨fun h => h.2.2.2, fun h => ⟨hG, hl, hx, h⟩⟩]
        exact Ev_to h fun k => by simp only [suffix_Right.j0]; rw [if_neg (by decide)]; rfl
      · rw [decide_eq_false (fun h => hx h.2.2.1)]
        exact Ev_now fun k => by
          simp only [suffix_Right.j0]
          rw [if_pos (by simpa using fun e => hx ((txt_iff x).1 e))]
    · simp only [if_neg (show ¬ (l.length : Int) = (x.length : Int) by omega)]
      rw [decide_eq_false (fun h => hl h.2.1)]
      exact Ev_now fun k => by simp only [suffix_Right.j0, if_true]
  · rw [if_neg hG]
    rw [decide_eq_false (fun h => hG h.1)]
    exact Ev_now fun k => by simp only [if_neg (show ¬ (3 : Int) = 0 by decide), suffix_Right.j0, if_true]
end Go.Proofs.Ythkofhidhghmmaa.SufPure
