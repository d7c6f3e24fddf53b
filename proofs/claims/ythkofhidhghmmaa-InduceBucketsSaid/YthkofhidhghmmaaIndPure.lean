/- Layer 16: the pure side: what layer 15's functions answer (wip/tools/mkpure.py wrote it out of SufPure1, SufPure2, SufPure3, SufPure4, SufPure5, SufPure6). -/
import Derived.Test.YthkofhidhghmmaaPIndx3
import Derived.Test.YthkofhidhghmmaaPIndx0
import Derived.Test.YthkofhidhghmmaaPIndx1
import Derived.Test.YthkofhidhghmmaaPIndx2
import Derived.Test.YthkofhidhghmmaaEvW
namespace Go.Proofs.Ythkofhidhghmmaa.IndPure
open Go.RowKit Go.Proofs.Ythkofhidhghmmaa Go.Proofs.Ythkofhidhghmmaa.PInd Go.Proofs.YthkofhidhghmmaaW.PrintWords Go.Proofs.YthkofhidhghmmaaW.PrintMore
set_option linter.unusedVariables false

/-! ### Same -/
theorem same6_l (a b : List Int) (hl : a.length = b.length) (hs : a.length < 4611686018427387904) : ∀ d i : Nat, i + d = a.length → Ev (fun k => incipitref06_Same.l0 k a b (i : Int)) (decide (a.drop i = b.drop i)) := by
  intro d
  induction d with
  | zero =>
    intro i hi
    rw [List.drop_of_length_le (by omega), List.drop_of_length_le (by omega), decide_eq_true rfl]
    exact Ev_now fun k => by simp only [incipitref06_Same.l0]; rw [if_neg (by omega)]
  | succ d ih =>
    intro i hi
    rw [drop_cons a i 0 (by omega), drop_cons b i 0 (by omega)]
    by_cases e : a.getD i 0 = b.getD i 0
    · rw [e]
      simp only [List.cons.injEq, true_and]
      exact Ev_to (ih (i + 1) (by omega)) fun k => by
        simp only [incipitref06_Same.l0]
        rw [if_pos (by omega), if_pos (by omega), if_pos (by omega), if_pos (by rw [rd_nat, rd_nat, e]), w_succ i (by omega)]
    · rw [decide_eq_false (by simp only [List.cons.injEq]; exact fun h => e h.1)]
      exact Ev_now fun k => by
        simp only [incipitref06_Same.l0]
        rw [if_pos (by omega), if_pos (by omega), if_pos (by omega), if_neg (by rw [rd_nat, rd_nat]; exact e)]
theorem same6 (a b : List Int) (hs : a.length < 4611686018427387904) : Ev (fun k => incipitref06_Same.f k a b) (decide (a = b)) := by
  by_cases h : a.length = b.length
  · have := same6_l a b h hs a.length 0 (by omega)
    simp only [List.drop_zero] at this
    exact Ev_as this fun k => by unfold incipitref06_Same.f; rw [if_pos (by omega)]; rfl
  · rw [decide_eq_false (fun e => h (by rw [e]))]
    exact Ev_eq fun k => by unfold incipitref06_Same.f; rw [if_neg (by omega)]

/-- Each place once. -/
def Good (l : List Int) : Prop := l.Nodup ∧ ∀ x ∈ l, 0 ≤ x ∧ x < (l.length : Int)
instance (l : List Int) : Decidable (Good l) := by unfold Good; infer_instance
def GoodP (n : Nat) (l : List Int) : Prop := l.Nodup ∧ ∀ x ∈ l, 0 ≤ x ∧ x < (n : Int)
/-- Where each number of a row stands. -/
def outOf (n : Nat) (p : List Int) : List Int := (List.range n).map fun (v : Nat) => if (v : Int) ∈ p then (p.idxOf (v : Int) : Int) else -1
theorem outOf_len (n : Nat) (p : List Int) : (outOf n p).length = n := by simp [outOf]
theorem outOf_get (n : Nat) (p : List Int) (v : Nat) (h : v < n) : (outOf n p).getD v 0 = if (v : Int) ∈ p then (p.idxOf (v : Int) : Int) else -1 := by
  simp [outOf, List.getD_eq_getElem?_getD, h]
theorem outOf_nil (n : Nat) : outOf n [] = List.replicate n (-1) := by
  refine List.ext_getElem (by simp [outOf]) fun i h1 h2 => by simp [outOf]
theorem outOf_snoc (n : Nat) (p : List Int) (v : Nat) (hv : (v : Int) ∉ p) : (outOf n p).set v (p.length : Int) = outOf n (p ++ [(v : Int)]) := by
  refine List.ext_getElem (by simp [outOf]) fun i h1 h2 => ?_
  rw [List.getElem_set]
  simp only [outOf, List.getElem_map, List.getElem_range]
  by_cases h : v = i
  · subst h
    simp [List.idxOf_append, hv]
  · rw [if_neg h]
    by_cases hi : (i : Int) ∈ p
    · simp [hi, List.idxOf_append]
    · have : ¬ (i : Int) = (v : Int) := by omega
      simp [hi, this]

theorem goodP_snoc {n : Nat} {p : List Int} {v : Int} (h : GoodP n p) (h0 : 0 ≤ v) (h1 : v < n) (hv : v ∉ p) : GoodP n (p ++ [v]) := by
  refine ⟨?_, fun x hx => ?_⟩
  · rw [List.nodup_append]
    refine ⟨h.1, by simp, fun a ha b hb => ?_⟩
    rw [List.mem_singleton] at hb
    subst hb
    exact fun e => hv (e ▸ ha)
  · rcases List.mem_append.1 hx with hx | hx
    · exact h.2 x hx
    · rw [List.mem_singleton] at hx; subst hx; exact ⟨h0, h1⟩
def turnedR (l : List Int) : List Int × Int := if Good l then (outOf l.length l, 0) else ([], 3)
/-! ### the document's -/
def lastF (v : Int) : List Int → Nat → Int → Int
  | [], _, a => a
  | x :: t, i, a => lastF v t (i + 1) (if x = v then (i : Int) else a)
theorem lastF_out (v : Int) : ∀ (l : List Int) (i : Nat) (a : Int), v ∉ l → lastF v l i a = a
  | [], _, _, _ => rfl
  | x :: t, i, a, h => by
    unfold lastF
    rw [if_neg (fun e => h (by rw [e]; exact List.mem_cons_self ..))]
    exact lastF_out v t (i + 1) a fun e => h (List.mem_cons_of_mem _ e)
theorem lastF_idx (v : Int) : ∀ (l : List Int) (i : Nat) (a : Int), l.Nodup → v ∈ l → lastF v l i a = ((i + l.idxOf v : Nat) : Int)
  | [], _, _, _, h => by simp at h
  | x :: t, i, a, hd, h => by
    have hd' := List.nodup_cons.1 hd
    unfold lastF
    by_cases e : x = v
    · subst e
      rw [if_pos rfl, lastF_out _ t _ _ hd'.1]; simp
    · rw [if_neg e, lastF_idx v t (i + 1) a hd'.2 (by rcases List.mem_cons.1 h with h | h; exact absurd h.symm e; exact h)]
      rw [List.idxOf_cons]
      simp [show ¬ (x == v) = true by simpa using e]
      omega
theorem lastF_pos (v : Int) : ∀ (l : List Int) (i : Nat) (a : Int), (0 ≤ a ∨ v ∈ l) → 0 ≤ lastF v l i a
  | [], _, a, h => by
    rcases h with h | h
    · exact h
    · simp at h
  | x :: t, i, a, h => by
    unfold lastF
    by_cases e : x = v
    · rw [if_pos e]; exact lastF_pos v t (i + 1) _ (.inl (by omega))
    · rw [if_neg e]
      refine lastF_pos v t (i + 1) a ?_
      rcases h with h | h
      · exact .inl h
      · exact .inr (by rcases List.mem_cons.1 h with h | h; exact absurd h.symm e; exact h)
def AllIn (l : List Int) (n : Nat) : Prop := ∀ u : Nat, u < n → (u : Int) ∈ l
def refR (l : List Int) (n : Nat) (m : Nat) : List Int := (List.range m).map fun (v : Nat) => lastF (v : Int) l 0 (-1)
theorem refR_succ (l : List Int) (n m : Nat) : refR l n (m + 1) = refR l n m ++ [lastF (m : Int) l 0 (-1)] := by unfold refR; rw [List.range_succ]; simp
instance (l : List Int) (n : Nat) : Decidable (AllIn l n) := by unfold AllIn; infer_instance
/-! ### each place once -/
theorem pigeon {α : Type} [DecidableEq α] : ∀ (a b : List α), a.Nodup → (∀ x ∈ a, x ∈ b) → a.length ≤ b.length
  | [], _, _, _ => Nat.zero_le _
  | x :: a, b, hd, hs => by
    have hd' := List.nodup_cons.1 hd
    have hx := hs x (List.mem_cons_self ..)
    have := pigeon a (b.erase x) hd'.2 fun y hy => (List.mem_erase_of_ne (fun (e : y = x) => hd'.1 (e ▸ hy))).2 (hs y (List.mem_cons_of_mem _ hy))
    rw [List.length_erase_of_mem hx] at this
    have := List.length_pos_of_mem hx
    simp only [List.length_cons]
    omega
theorem nodup_of_erase {α : Type} [DecidableEq α] : ∀ (l : List α), (∀ x ∈ l, x ∉ l.erase x) → l.Nodup
  | [], _ => List.nodup_nil
  | a :: t, h => by
    have h0 : a ∉ t := by have := h a (List.mem_cons_self ..); rwa [List.erase_cons_head] at this
    refine List.nodup_cons.2 ⟨h0, nodup_of_erase t fun x hx hx2 => ?_⟩
    have := h x (List.mem_cons_of_mem _ hx)
    rw [List.erase_cons_tail (by simp; exact fun e => h0 (e ▸ hx))] at this
    exact this (List.mem_cons_of_mem _ hx2)
def placesI (n : Nat) : List Int := (List.range n).map fun (v : Nat) => (v : Int)
theorem placesI_nodup (n : Nat) : (placesI n).Nodup := by
  unfold placesI
  unfold List.Nodup
  rw [List.pairwise_map]
  exact List.nodup_range.imp fun h e => h (by omega)
theorem mem_placesI (n : Nat) (x : Int) : x ∈ placesI n ↔ 0 ≤ x ∧ x < n := by
  unfold placesI
  rw [List.mem_map]
  constructor
  · rintro ⟨u, hu, rfl⟩; rw [List.mem_range] at hu; omega
  · rintro ⟨h0, h1⟩
    exact ⟨x.toNat, List.mem_range.2 (by omega), by omega⟩
theorem placesI_len (n : Nat) : (placesI n).length = n := by simp [placesI]
theorem good_iff (l : List Int) : Good l ↔ AllIn l l.length := by
  constructor
  · intro h u hu
    refine Classical.byContradiction fun hn => ?_
    have := pigeon ((u : Int) :: l) (placesI l.length) (List.nodup_cons.2 ⟨hn, h.1⟩) fun x hx => by
      rw [mem_placesI]
      rcases List.mem_cons.1 hx with rfl | hx
      · omega
      · exact h.2 x hx
    rw [placesI_len, List.length_cons] at this
    omega
  · intro h
    have hs : ∀ x ∈ placesI l.length, x ∈ l := fun x hx => by
      rw [mem_placesI] at hx
      have := h x.toNat (by omega)
      rwa [Int.toNat_of_nonneg hx.1] at this
    refine ⟨nodup_of_erase l fun x hx hx2 => ?_, fun x hx => ?_⟩
    · have := pigeon (placesI l.length) (l.erase x) (placesI_nodup _) fun y hy => by
        by_cases e : y = x
        · rw [e]; exact hx2
        · exact (List.mem_erase_of_ne e).2 (hs y hy)
      rw [placesI_len, List.length_erase_of_mem hx] at this
      have := List.length_pos_of_mem hx
      omega
    · refine Classical.byContradiction fun hn => ?_
      have := pigeon (x :: placesI l.length) l (List.nodup_cons.2 ⟨fun h => hn ((mem_placesI _ _).1 h), placesI_nodup _⟩) fun y hy => by
        rcases List.mem_cons.1 hy with rfl | hy
        · exact hx
        · exact hs y hy
      rw [List.length_cons, placesI_len] at this
      omega
theorem good_all {l : List Int} (h : Good l) {u : Nat} (hu : u < l.length) : (u : Int) ∈ l := (good_iff l).1 h u hu
theorem outOf_good {l : List Int} (h : Good l) (v : Nat) (hv : v < l.length) : (outOf l.length l).getD v 0 = (l.idxOf (v : Int) : Int) := by
  rw [outOf_get _ _ _ hv, if_pos (good_all h hv)]
theorem idxOf_getD {l : List Int} {x : Int} (h : x ∈ l) : l.getD (l.idxOf x) 0 = x := by
  have := List.idxOf_lt_length_iff.2 h
  rw [getD_lt _ _ _ this]
  exact List.getElem_idxOf this
theorem refR_good {l : List Int} (h : Good l) : refR l l.length l.length = outOf l.length l := by
  refine List.ext_getElem (by simp [refR, outOf]) fun i h1 h2 => ?_
  have hi : i < l.length := by simpa [refR] using h1
  simp only [refR, outOf, List.getElem_map, List.getElem_range]
  rw [if_pos (good_all h hi), lastF_idx _ _ _ _ h.1 (good_all h hi), Nat.zero_add]
theorem good_turned {l : List Int} (h : Good l) : Good (outOf l.length l) := by
  refine ⟨?_, fun x hx => ?_⟩
  · unfold List.Nodup
    rw [List.pairwise_iff_getElem]
    intro i j hi hj hij e
    rw [outOf_len] at hi hj
    have e1 := outOf_good h i hi
    have e2 := outOf_good h j hj
    rw [getD_lt _ _ _ (by rw [outOf_len]; omega)] at e1 e2
    have e3 : l.idxOf (i : Int) = l.idxOf (j : Int) := by omega
    have e4 := idxOf_getD (good_all h hi)
    rw [e3, idxOf_getD (good_all h hj)] at e4
    omega
  · obtain ⟨i, hi, rfl⟩ := List.getElem_of_mem hx
    rw [outOf_len] at hi ⊢
    have e1 := outOf_good h i hi
    rw [getD_lt _ _ _ (by rw [outOf_len]; omega)] at e1
    have := List.idxOf_lt_length_iff.2 (good_all h hi)
    omega
theorem turned_twice {l : List Int} (h : Good l) : outOf l.length (outOf l.length l) = l := by
  have hg := good_turned h
  refine List.ext_getElem (by simp [outOf]) fun v h1 h2 => ?_
  have e1 := outOf_good hg v (by rw [outOf_len]; exact h2)
  rw [outOf_len, getD_lt _ _ _ h1] at e1
  rw [e1]
  have hm := good_all hg (u := v) (by rw [outOf_len]; exact h2)
  have hlt := List.idxOf_lt_length_iff.2 hm
  have e2 := idxOf_getD hm
  rw [outOf_len] at hlt
  rw [outOf_good h _ hlt] at e2
  have e3 := idxOf_getD (good_all h hlt)
  rw [show l.idxOf (((outOf l.length l).idxOf (v : Int) : Nat) : Int) = v by omega, getD_lt _ _ _ h2] at e3
  exact e3.symm


/-! ### what is a text -/
theorem index_l (l : List Int) (hb : l.length < 1000000) (v : Int) : ∀ d i : Nat, i + d = l.length → v ∉ l.take i → Ev (fun k => slices_Index_int_int.l0 k l v (l.length : Int) (i : Int)) (if v ∈ l then (l.idxOf v : Int) else -1) := by
  intro d
  induction d with
  | zero =>
    intro i hi hn
    rw [List.take_of_length_le (by omega)] at hn
    rw [if_neg hn]
    exact Ev_now fun k => by simp only [slices_Index_int_int.l0]; rw [if_neg (by omega)]
  | succ d ih =>
    intro i hi hn
    by_cases e : v = l.getD i 0
    · have hm := getD_mem l i 0 (by omega)
      have hx : l.idxOf v = i := by
        conv => lhs; rw [← List.take_append_drop i l]
        rw [List.idxOf_append, if_neg hn, drop_cons l i 0 (by omega), ← e, List.idxOf_cons_self, List.length_take]
        omega
      rw [if_pos (by rw [e]; exact hm), hx]
      exact Ev_now fun k => by
        simp only [slices_Index_int_int.l0]
        rw [if_pos (by omega), if_pos (by omega), if_pos (by omega), if_pos (by rw [rd_nat]; exact e)]
    · refine Ev_to (ih (i + 1) (by omega) ?_) fun k => ?_
      · rw [take_succ_getD l i 0 (by omega)]
        simp only [List.mem_append, List.mem_singleton, not_or]
        exact ⟨hn, e⟩
      · simp only [slices_Index_int_int.l0]
        rw [if_pos (by omega), if_pos (by omega), if_pos (by omega), if_neg (by rw [rd_nat]; exact e), w_succ i (by omega)]
theorem index (l : List Int) (hb : l.length < 1000000) (v : Int) : Ev (fun k => slices_Index_int_int.f k l v) (if v ∈ l then (l.idxOf v : Int) else -1) := index_l l hb v l.length 0 (by omega) (by simp)
/-- Codes, and a nought at the end alone. -/
structure Txt (l : List Int) : Prop where
  rng : ∀ x ∈ l, 0 ≤ x ∧ x < 65536
  last : ∀ i : Nat, i < l.length → (l.getD i 0 = 0 ↔ i + 1 = l.length)
  pos : 0 < l.length
def chk (l : List Int) : Int := if l.any badCode = true then 10 else if (if (0 : Int) ∈ l then (l.idxOf 0 : Int) else -1) = (l.length : Int) - 1 then (if l.length = 0 then 3 else 0) else 3
theorem txt_iff (l : List Int) : chk l = 0 ↔ Txt l := by
  unfold chk
  have hbad : l.any badCode = true ↔ ¬ ∀ x ∈ l, 0 ≤ x ∧ x < 65536 := by
    rw [List.any_eq_true]
    constructor
    · rintro ⟨x, hx, hb⟩ h
      have := h x hx
      unfold badCode at hb
      simp at hb
      omega
    · intro h
      refine Classical.byContradiction fun hn => h fun x hx => Classical.byContradiction fun h2 => hn ⟨x, hx, ?_⟩
      unfold badCode
      simp
      omega
  by_cases h1 : l.any badCode = true
  · rw [if_pos h1]
    exact ⟨fun h => absurd h (by decide), fun h => absurd h.rng (hbad.1 h1)⟩
  · rw [if_neg h1]
    have hr : ∀ x ∈ l, 0 ≤ x ∧ x < 65536 := Classical.byContradiction fun h => h1 (hbad.2 h)
    by_cases h2 : (0 : Int) ∈ l
    · rw [if_pos h2]
      have hlt := List.idxOf_lt_length_iff.2 h2
      by_cases h3 : (l.idxOf (0 : Int) : Int) = (l.length : Int) - 1
      · rw [if_pos h3, if_neg (by omega)]
        refine ⟨fun _ => ⟨hr, fun i hi => ⟨fun e => ?_, fun e => ?_⟩, by omega⟩, fun _ => rfl⟩
        · refine Classical.byContradiction fun hne => ?_
          have hlt2 : i < l.idxOf (0 : Int) := by omega
          have := List.not_of_lt_findIdx (p := (· == (0 : Int))) (xs := l) hlt2
          rw [getD_lt l i 0 hi] at e
          simp [e] at this
        · have := idxOf_getD h2
          rwa [show l.idxOf (0 : Int) = i by omega] at this
      · rw [if_neg h3]
        refine ⟨fun h => absurd h (by decide), fun h => ?_⟩
        have := (h.last _ hlt).1 (idxOf_getD h2)
        omega
    · rw [if_neg h2]
      by_cases h3 : (-1 : Int) = (l.length : Int) - 1
      · rw [if_pos h3, if_pos (by omega)]
        exact ⟨fun h => absurd h (by decide), fun h => absurd h.pos (by omega)⟩
      · rw [if_neg h3]
        refine ⟨fun h => absurd h (by decide), fun h => absurd ?_ h2⟩
        have h4 := (h.last (l.length - 1) (by have := h.pos; omega)).2 (by have := h.pos; omega)
        rw [← h4]
        exact getD_mem l _ 0 (by have := h.pos; omega)
instance (l : List Int) : Decidable (Txt l) := decidable_of_iff _ (txt_iff l)
theorem inKs_true {l : List Int} (h : ∀ x ∈ l, (Lit.int .i64 x).wf = true) : inKs .i64 l = true := List.all_eq_true.2 h
theorem check (l : List Int) (hb : l.length ≤ 65536) (hw : ∀ x ∈ l, (Lit.int .i64 x).wf = true) : Ev (fun k => suffix_Check.f k l) (chk l) := by
  unfold suffix_Check.f
  simp only [if_neg (show ¬ 65536 < l.length by omega), if_pos (inKs_true hw)]
  unfold chk
  by_cases h1 : l.any badCode = true
  · simp only [if_pos h1]; exact Ev.now _
  · simp only [if_neg h1]
    refine Ev.bind (index l (by omega) 0) ?_
    by_cases h3 : (if (0 : Int) ∈ l then (l.idxOf 0 : Int) else -1) = (l.length : Int) - 1
    · simp only [if_pos h3]
      by_cases h0 : l.length = 0
      · simp only [if_pos h0]; exact Ev.now _
      · simp only [if_neg h0]; exact Ev.now _
    · simp only [if_neg h3]; exact Ev.now _

/-! ### how a suffix is against another one -/
theorem Ev.all {g : Nat → Nat → Bool} {n : Nat} (h : ∀ i, i < n → ∃ K, ∀ k, K ≤ k → g k i = true) : ∃ K, ∀ k, K ≤ k → (List.range n).all (g k) = true := by
  induction n with
  | zero => exact ⟨0, fun k _ => rfl⟩
  | succ n ih =>
    obtain ⟨K, hK⟩ := ih fun i hi => h i (by omega)
    obtain ⟨M, hM⟩ := h n (by omega)
    refine ⟨K + M, fun k hk => ?_⟩
    rw [List.range_succ, List.all_append, hK k (by omega)]
    simp [hM k (by omega)]
/-! ### right -/
theorem good_nat {l : List Int} (h : Good l) (i : Nat) (hi : i < l.length) : ∃ a : Nat, l.getD i 0 = (a : Int) ∧ a < l.length := by
  have := h.2 _ (getD_mem l i 0 hi)
  exact ⟨(l.getD i 0).toNat, by omega, by omega⟩
theorem good_inj {l : List Int} (h : Good l) {i j : Nat} (hi : i < l.length) (hj : j < l.length) (e : l.getD i 0 = l.getD j 0) : i = j := by
  rw [getD_lt _ _ _ hi, getD_lt _ _ _ hj] at e
  have hp := List.pairwise_iff_getElem.1 h.1
  rcases Nat.lt_trichotomy i j with h1 | h1 | h1
  · exact absurd e (hp i j hi hj h1)
  · exact h1
  · exact absurd e.symm (hp j i hj hi h1)

theorem cmpS_step (x : List Int) (a b : Nat) (ha : a < x.length) (hb : b < x.length) : cmpS x a b = if x.getD a 0 < x.getD b 0 then -1 else if x.getD b 0 < x.getD a 0 then 1 else cmpS x (a + 1) (b + 1) := by
  unfold cmpS
  rw [drop_cons x a 0 ha, drop_cons x b 0 hb]
  rfl
theorem txt_eq {x : List Int} (hx : Txt x) {a b : Nat} (ha : a < x.length) (hb : b < x.length) (hne : a ≠ b) (h : x.getD a 0 = x.getD b 0) : a + 1 < x.length ∧ b + 1 < x.length := by
  have h1 := hx.last a ha
  have h2 := hx.last b hb
  constructor
  · refine Classical.byContradiction fun hn => ?_
    have e1 := h1.2 (by omega)
    have e2 := h2.1 (by omega)
    omega
  · refine Classical.byContradiction fun hn => ?_
    have e1 := h2.2 (by omega)
    have e2 := h1.1 (by omega)
    omega
theorem rises_idx {x : List Int} {o : List Nat} (h : Rises x o) {u v : Nat} (hu : u ∈ o) (hv : v ∈ o) (hc : cmpS x u v < 0) : o.idxOf u < o.idxOf v := by
  have h1 := List.idxOf_lt_length_iff.2 hu
  have h2 := List.idxOf_lt_length_iff.2 hv
  have e1 : o[o.idxOf u] = u := List.getElem_idxOf h1
  have e2 : o[o.idxOf v] = v := List.getElem_idxOf h2
  rcases Nat.lt_trichotomy (o.idxOf u) (o.idxOf v) with h3 | h3 | h3
  · exact h3
  · have : u = v := by rw [← e1, ← e2]; simp only [h3]
    rw [this, cmpS_self] at hc
    omega
  · have := List.pairwise_iff_getElem.1 h _ _ h2 h1 h3
    rw [e1, e2, cmpS_swap] at this
    omega
theorem idxOf_map_nat (o : List Nat) (v : Nat) : (o.map Int.ofNat).idxOf (v : Int) = o.idxOf v := by
  induction o with
  | nil => rfl
  | cons a t ih =>
    rw [List.map_cons, List.idxOf_cons, List.idxOf_cons, ih]
    by_cases h : a = v
    · subst h; simp
    · have h1 : (Int.ofNat a == (v : Int)) = false := by simp; omega
      have h2 : (a == v) = false := by simpa using h
      rw [h1, h2]
theorem sortS_good (x : List Int) : Good (sortS x) := by
  unfold sortS
  refine ⟨?_, fun z hz => ?_⟩
  · unfold List.Nodup
    rw [List.pairwise_map]
    have : (sortN x x.length).Nodup := (sortN_perm x x.length).nodup_iff.2 List.nodup_range
    exact this.imp fun h e => h (Int.ofNat.inj e)
  · obtain ⟨y, hy, rfl⟩ := List.mem_map.1 hz
    have := (sortN_mem x _ y).1 hy
    rw [List.length_map, sortN_len]
    constructor
    · exact Int.natCast_nonneg y
    · exact Int.ofNat_lt.2 this
theorem perm_of_nodup {α : Type} [DecidableEq α] : ∀ (a b : List α), a.Nodup → b.Nodup → (∀ x, x ∈ a ↔ x ∈ b) → a.Perm b
  | [], b, _, _, h => by
    cases b with
    | nil => exact List.Perm.refl _
    | cons y t => have := (h y).2 (List.mem_cons_self ..); simp at this
  | x :: a, b, ha, hb, h => by
    have ha' := List.nodup_cons.1 ha
    have hx := (h x).1 (List.mem_cons_self ..)
    have h1 := List.perm_cons_erase hx
    have hb2 : (x :: b.erase x).Nodup := h1.nodup_iff.1 hb
    have hb' := List.nodup_cons.1 hb2
    refine ((perm_of_nodup a (b.erase x) ha'.2 hb'.2 fun y => ?_).cons x).trans h1.symm
    constructor
    · intro hy
      have := (h y).1 (List.mem_cons_of_mem _ hy)
      rcases List.mem_cons.1 (h1.mem_iff.1 this) with e | e
      · exact absurd (e ▸ hy) ha'.1
      · exact e
    · intro hy
      have := (h y).2 (h1.mem_iff.2 (List.mem_cons_of_mem _ hy))
      rcases List.mem_cons.1 this with e | e
      · exact absurd (e ▸ hy) hb'.1
      · exact e
theorem take_wf {l : List Int} {n : Nat} (h : ∀ x ∈ l, (Lit.int .i64 x).wf = true) : ∀ x ∈ l.take n, (Lit.int .i64 x).wf = true := fun x hx => h x (List.mem_of_mem_take hx)

theorem tm_range (a : Int) (s : Nat) (h0 : 0 < s) (h1 : s < 4611686018427387904) : 0 ≤ wrap64 (Int.tmod (IntKind.u64.wrap a) (IntKind.u64.wrap (s : Int))) ∧ wrap64 (Int.tmod (IntKind.u64.wrap a) (IntKind.u64.wrap (s : Int))) < s := by
  rw [IntKind.wrap_u64, IntKind.wrap_u64, Int.emod_eq_of_lt (a := (s : Int)) (by omega) (by omega), Int.tmod_eq_emod_of_nonneg (by omega)]
  have h2 := Int.emod_nonneg (a % 18446744073709551616) (b := (s : Int)) (by omega)
  have h3 := Int.emod_lt_of_pos (a % 18446744073709551616) (b := (s : Int)) (by omega)
  rw [w_id (by omega) (by omega)]
  exact ⟨h2, h3⟩
theorem txt_of (o : List Int) (h : ∀ z ∈ o, 1 ≤ z ∧ z ≤ 65535) : Txt (o ++ [0]) := by
  refine ⟨fun x hx => ?_, fun i hi => ?_, by simp⟩
  · rcases List.mem_append.1 hx with hx | hx
    · have := h x hx; omega
    · rw [List.mem_singleton] at hx; omega
  · rw [List.length_append, List.length_singleton] at hi ⊢
    by_cases e : i < o.length
    · have hg : (o ++ [0]).getD i 0 = o.getD i 0 := by simp [List.getD_eq_getElem?_getD, List.getElem?_append_left e]
      have := h _ (getD_mem o i 0 e)
      rw [hg]
      constructor <;> intro h2 <;> omega
    · have hg : (o ++ [0]).getD i 0 = 0 := by
        rw [show i = o.length by omega]
        simp [List.getD_eq_getElem?_getD]
      rw [hg]
      constructor
      · intro _; omega
      · intro _; rfl
theorem text_l (l : List Int) (s : Nat) (h0 : 0 < s) (h1 : s < 10) : ∀ d i : Nat, i + d = min l.length 120 → ∀ o : List Int, o.length = i → (∀ z ∈ o, 1 ≤ z ∧ z ≤ 65535) → ∃ x, Ev (fun k => incipitlaw15_Text.l0 k l (s : Int) o (i : Int)) x ∧ Txt x ∧ x.length ≤ 121 := by
  intro d
  induction d with
  | zero =>
    intro i hi o ho hz
    refine ⟨o ++ [0], Ev_now fun k => ?_, txt_of o hz, by simp; omega⟩
    simp only [incipitlaw15_Text.l0]
    by_cases h : i < l.length
    · rw [if_pos (by omega), if_neg (by omega), if_pos (by omega)]
    · rw [if_neg (by omega), if_pos (by omega)]
  | succ d ih =>
    intro i hi o ho hz
    have hr := tm_range (l.getD i 0) s h0 (by omega)
    generalize hv : wrap64 (Int.tmod (IntKind.u64.wrap (l.getD i 0)) (IntKind.u64.wrap (s : Int))) = v at hr
    obtain ⟨x, hx, hT, hL⟩ := ih (i + 1) (by omega) (o ++ [1 + v]) (by simp; omega) (fun z hz2 => by
      rcases List.mem_append.1 hz2 with h | h
      · exact hz z h
      · rw [List.mem_singleton] at h; omega)
    refine ⟨x, Ev_to hx fun k => ?_, hT, hL⟩
    simp only [incipitlaw15_Text.l0]
    rw [if_pos (by omega), if_pos (by omega), if_pos (by omega), if_neg (by rw [IntKind.wrap_u64]; omega), if_pos (by omega), rd_nat, hv, w_id (x := 1 + v) (by omega) (by omega), w_succ i (by omega)]
theorem text (l : List Int) (a : Int) : ∃ x, Ev (fun k => incipitlaw15_Text.f k l a) x ∧ Txt x ∧ x.length ≤ 121 := by
  have hr := tm_range a 9 (by decide) (by decide)
  have e9 : IntKind.u64.wrap ((9 : Nat) : Int) = 9 := by rw [IntKind.wrap_u64]; rfl
  rw [e9] at hr
  unfold incipitlaw15_Text.f
  generalize wrap64 (Int.tmod (IntKind.u64.wrap a) 9) = v at hr
  rw [w_id (x := 1 + v) (by omega) (by omega)]
  obtain ⟨s, hs⟩ := Int.eq_ofNat_of_zero_le (show 0 ≤ 1 + v by omega)
  rw [hs]
  exact text_l l s (by omega) (by omega) _ 0 (Nat.zero_add _) [] rfl (by simp)
theorem txt_wf {x : List Int} (h : Txt x) : ∀ z ∈ x, (Lit.int .i64 z).wf = true := fun z hz => by
  have := h.rng z hz
  exact (InK.of_i64 (x := z) (by omega) (by omega)).1

/-! ### how much is alike -/
def comL : List Int → List Int → Nat
  | a :: s, b :: t => if a = b then comL s t + 1 else 0
  | _, _ => 0
theorem comL_nil (s : List Int) : comL s [] = 0 := by cases s <;> rfl
theorem com_spec {x : List Int} (hx : Txt x) : ∀ d a b : Nat, a < x.length → b < x.length → x.length - a ≤ d → a ≠ b →
    a + comL (x.drop a) (x.drop b) < x.length ∧ b + comL (x.drop a) (x.drop b) < x.length ∧ (cmpS x a b < 0 ↔ x.getD (a + comL (x.drop a) (x.drop b)) 0 < x.getD (b + comL (x.drop a) (x.drop b)) 0) := by
  intro d
  induction d with
  | zero => intro a b ha hb hd; omega
  | succ d ih =>
    intro a b ha hb hd hne
    rw [cmpS_step x a b ha hb, drop_cons x a 0 ha, drop_cons x b 0 hb]
    unfold comL
    by_cases e : x.getD a 0 = x.getD b 0
    · obtain ⟨h5, h6⟩ := txt_eq hx ha hb hne e
      obtain ⟨h1, h2, h3⟩ := ih (a + 1) (b + 1) h5 h6 (by omega) (by omega)
      rw [if_pos e, if_neg (by omega), if_neg (by omega)]
      rw [show a + (comL (x.drop (a + 1)) (x.drop (b + 1)) + 1) = a + 1 + comL (x.drop (a + 1)) (x.drop (b + 1)) by omega, show b + (comL (x.drop (a + 1)) (x.drop (b + 1)) + 1) = b + 1 + comL (x.drop (a + 1)) (x.drop (b + 1)) by omega]
      exact ⟨h1, h2, h3⟩
    · rw [if_neg e]
      refine ⟨by omega, by omega, ?_⟩
      simp only [Nat.add_zero]
      by_cases h1 : x.getD a 0 < x.getD b 0
      · rw [if_pos h1]; exact ⟨fun _ => h1, fun _ => by decide⟩
      · rw [if_neg h1, if_pos (by omega)]; exact ⟨fun h => absurd h (by decide), fun h => absurd h h1⟩
/-! ### kinds -/
def kindS (x : List Int) (i : Nat) : Bool := decide (i + 1 = x.length) || decide (cmpS x i (i + 1) < 0)
def kindsL (x : List Int) : List Bool := (List.range x.length).map (kindS x)
theorem kindsL_len (x : List Int) : (kindsL x).length = x.length := by simp [kindsL]
theorem kindsL_get (x : List Int) (i : Nat) (h : i < x.length) : (kindsL x).getD i false = kindS x i := by simp [kindsL, List.getD_eq_getElem?_getD, h]
theorem kindS_step {x : List Int} (hx : Txt x) (i : Nat) (h : i + 1 < x.length) : kindS x i = (decide (x.getD i 0 < x.getD (i + 1) 0) || decide (x.getD i 0 = x.getD (i + 1) 0) && kindS x (i + 1)) := by
  unfold kindS
  rw [decide_eq_false (show ¬ i + 1 = x.length by omega), cmpS_step x i (i + 1) (by omega) h]
  by_cases h1 : x.getD i 0 < x.getD (i + 1) 0
  · rw [if_pos h1, decide_eq_true h1]; simp
  · rw [if_neg h1, decide_eq_false h1]
    by_cases h2 : x.getD i 0 = x.getD (i + 1) 0
    · obtain ⟨_, h4⟩ := txt_eq hx (by omega) h (by omega) h2
      rw [if_neg (by omega), decide_eq_true h2, decide_eq_false (show ¬ i + 1 + 1 = x.length by omega)]; simp
    · rw [if_pos (by omega), decide_eq_false h2]; simp
theorem set_drop {α : Type} (o w : List α) (i : Nat) (d : α) (hl : o.length = w.length) (hi : i < o.length) (h : o.drop (i + 1) = w.drop (i + 1)) : (o.set i (w.getD i d)).drop i = w.drop i := by
  rw [drop_cons _ i d (by rw [List.length_set]; exact hi), drop_cons w i d (by omega), List.drop_set_of_lt (by omega), h]
  simp [List.getD_eq_getElem?_getD, hi]
theorem kinds_l {x : List Int} (hx : Txt x) (hb : x.length < 1000000) : ∀ i : Nat, i ≤ x.length → ∀ o : List Bool, o.length = x.length → o.drop i = (kindsL x).drop i → Ev (fun k => suffix_kinds.l0 k x o ((i : Int) - 1)) (kindsL x) := by
  intro i
  induction i with
  | zero =>
    intro hi o ho h
    rw [List.drop_zero, List.drop_zero] at h
    subst h
    exact Ev_now fun k => by simp only [suffix_kinds.l0]; rw [if_neg (by omega)]
  | succ i ih =>
    intro hi o ho h
    have hp := hx.pos
    have ei : ((i + 1 : Nat) : Int) - 1 = (i : Int) := by omega
    have el : wrap64 ((x.length : Int) - 1) = ((x.length - 1 : Nat) : Int) := by rw [w_id] <;> omega
    have em : wrap64 ((i : Int) - 1) = (i : Int) - 1 := by rw [w_id] <;> omega
    have hs := set_drop o (kindsL x) i false (by rw [kindsL_len, ho]) (by omega) h
    rw [kindsL_get x i (by omega)] at hs
    have hnext := ih (by omega) (o.set i (kindS x i)) (by rw [List.length_set, ho]) hs
    refine Ev_to hnext fun k => ?_
    simp only [suffix_kinds.l0]
    rw [ei, if_pos (by omega), el, em]
    by_cases e : i + 1 = x.length
    · rw [if_pos (by omega), if_pos (by omega), if_pos (by omega), Int.toNat_natCast]
      rw [show kindS x i = true by unfold kindS; rw [decide_eq_true e]; rfl]
    · rw [if_neg (by omega), if_pos (by omega), if_pos (by omega), w_succ i (by omega), if_pos (by omega), if_pos (by omega), rd_nat, rd_nat, Int.toNat_natCast]
      have hk := kindS_step hx i (by omega)
      by_cases h1 : x.getD i 0 < x.getD (i + 1) 0
      · rw [if_pos h1, if_pos (by omega)]
        rw [decide_eq_true h1] at hk
        rw [hk]; rfl
      · rw [if_neg h1]
        rw [decide_eq_false h1] at hk
        by_cases h2 : x.getD i 0 = x.getD (i + 1) 0
        · rw [if_pos h2, if_pos (by omega), if_pos (by omega)]
          rw [decide_eq_true h2] at hk
          have h3 : rdOf false o ((i + 1 : Nat) : Int) = kindS x (i + 1) := by
            unfold rdOf
            rw [Int.toNat_natCast, ← kindsL_get x (i + 1) (by omega)]
            have e3 := congrArg (fun z => z.getD 0 false) h
            simp only [List.getD_eq_getElem?_getD, List.getElem?_drop, Nat.add_zero] at e3
            simp only [List.getD_eq_getElem?_getD]
            exact e3
          rw [h3, hk]; simp
        · rw [if_neg h2, if_pos (by omega)]
          rw [decide_eq_false h2] at hk
          rw [hk]; rfl
theorem kinds {x : List Int} (hx : Txt x) (hb : x.length < 1000000) : Ev (fun k => suffix_kinds.f k x) (kindsL x) := by
  have hp := hx.pos
  have h := kinds_l hx hb x.length (Nat.le_refl _) (List.replicate x.length false) (by simp) (by rw [List.drop_of_length_le (by simp), List.drop_of_length_le (by rw [kindsL_len]; omega)])
  exact Ev_as h fun k => by
    unfold suffix_kinds.f
    rw [if_pos (by omega), if_pos (by omega), Int.toNat_natCast, w_id (x := (x.length : Int) - 1) (by omega) (by omega)]
theorem kindsK (x : List Int) (hb : x.length ≤ 65536) (hw : ∀ z ∈ x, (Lit.int .i64 z).wf = true) : Ev (fun k => suffix_Kinds.f k x) (if Txt x then (kindsL x, 0) else ([], chk x)) := by
  unfold suffix_Kinds.f
  refine Ev.bind (check x hb hw) ?_
  by_cases h : Txt x
  · simp only [if_pos ((txt_iff x).2 h), if_pos h]
    exact Ev.bind (kinds h (by omega)) (Ev.now _)
  · simp only [if_neg (fun e => h ((txt_iff x).1 e)), if_neg h]
    exact Ev.now _
/-! ### the first ones -/
def firstAt (ks : List Bool) (i : Nat) : Bool := decide (1 ≤ i) && ks.getD i false && !ks.getD (i - 1) false
def firstsOf (ks : List Bool) (m : Nat) : List Int := ((List.range m).filter (firstAt ks)).map Int.ofNat
theorem firstsOf_succ (ks : List Bool) (m : Nat) : firstsOf ks (m + 1) = firstsOf ks m ++ (if firstAt ks m = true then [(m : Int)] else []) := by
  unfold firstsOf
  rw [List.range_succ, List.filter_append, List.map_append]
  by_cases h : firstAt ks m = true
  · simp [h]
  · simp [h]
theorem firstsOf_len (ks : List Bool) (m : Nat) : (firstsOf ks m).length ≤ m := by
  unfold firstsOf
  rw [List.length_map]
  have := List.length_filter_le (firstAt ks) (List.range m)
  rwa [List.length_range] at this
theorem firsts_l (ks : List Bool) (hb : ks.length < 1000000) : ∀ d i : Nat, i + d = ks.length → Ev (fun k => suffix_Firsts.l0 k ks (firstsOf ks i) (ks.length : Int) (i : Int)) (firstsOf ks ks.length, 0) := by
  intro d
  induction d with
  | zero =>
    intro i hi
    rw [show i = ks.length by omega]
    exact Ev_now fun k => by simp only [suffix_Firsts.l0]; rw [if_neg (by omega)]
  | succ d ih =>
    intro i hi
    have h := ih (i + 1) (by omega)
    rw [firstsOf_succ] at h
    have hlen := firstsOf_len ks i
    have hr : rdOf false ks (i : Int) = ks.getD i false := rfl
    refine Ev_to h fun k => ?_
    simp only [suffix_Firsts.l0]
    rw [if_pos (by omega), w_succ i (by omega)]
    by_cases h0 : i = 0
    · subst h0
      rw [if_pos (by omega), if_neg (by unfold firstAt; simp), List.append_nil]
    · have e1 : wrap64 ((i : Int) - 1) = ((i - 1 : Nat) : Int) := by rw [w_id] <;> omega
      have hr1 : rdOf false ks ((i - 1 : Nat) : Int) = ks.getD (i - 1) false := rfl
      rw [if_neg (by omega), if_pos (by omega), if_pos (by omega), hr, e1, hr1]
      unfold firstAt
      rw [decide_eq_true (show 1 ≤ i by omega)]
      cases hk : ks.getD i false with
      | false => simp
      | true =>
        rw [if_pos rfl, if_pos (by omega), if_pos (by omega)]
        cases hk1 : ks.getD (i - 1) false with
        | true => simp
        | false => rw [if_neg (by decide), if_pos (by omega)]; simp
def firstsL (x : List Int) : List Int := firstsOf (kindsL x) x.length
theorem firsts (x : List Int) (hb : x.length ≤ 65536) (hw : ∀ z ∈ x, (Lit.int .i64 z).wf = true) : Ev (fun k => suffix_Firsts.f k x) (if Txt x then (firstsL x, 0) else ([], chk x)) := by
  unfold suffix_Firsts.f
  refine Ev.bind (kindsK x hb hw) ?_
  by_cases h : Txt x
  · simp only [if_pos h, if_true]
    have := firsts_l (kindsL x) (by rw [kindsL_len]; omega) (kindsL x).length 0 (by omega)
    unfold firstsL
    rw [kindsL_len] at this ⊢
    exact this
  · simp only [if_neg h, if_neg (fun e => h ((txt_iff x).1 e))]
    exact Ev.now _

def inAll (x ls : List Int) : Prop := ∀ z ∈ ls, 0 ≤ z ∧ z < (x.length : Int)
instance (x ls : List Int) : Decidable (inAll x ls) := by unfold inAll; infer_instance
/-! ### a number in a rising row -/
theorem firstsL_lt (x : List Int) : (firstsL x).Pairwise (· < ·) := by
  unfold firstsL firstsOf
  rw [List.pairwise_map]
  exact (List.pairwise_lt_range.filter _).imp fun h => Int.ofNat_lt.2 h
theorem firstsL_mem {x : List Int} {z : Int} (h : z ∈ firstsL x) : ∃ a : Nat, z = (a : Int) ∧ a < x.length := by
  unfold firstsL firstsOf at h
  obtain ⟨a, ha, rfl⟩ := List.mem_map.1 h
  exact ⟨a, rfl, List.mem_range.1 (List.mem_filter.1 ha).1⟩
theorem firstsL_len (x : List Int) : (firstsL x).length ≤ x.length := firstsOf_len _ _
/-- The piece of a first S. -/
def pieceL (x : List Int) (at_ : Nat) : List Int :=
  if (firstsL x).idxOf (at_ : Int) + 1 = (firstsL x).length then x.drop at_ else (x.take (((firstsL x).getD ((firstsL x).idxOf (at_ : Int) + 1) 0).toNat + 1)).drop at_
/-! ### the law -/

abbrev toI (o : List Nat) : List Int := o.map Int.ofNat
theorem toI_getD (o : List Nat) (i : Nat) (h : i < o.length) : (toI o).getD i 0 = ((o.getD i 0 : Nat) : Int) := by simp [List.getD_eq_getElem?_getD, h]
theorem insS_len (x : List Int) (v : Nat) (o : List Nat) : (insS x v o).length = o.length + 1 := by rw [(insS_perm x v o).length_eq]; rfl
/-! ### how much is alike -/
/-- Of each one and the one ahead. -/
def commonsL (x l : List Int) : List Int := (List.range l.length).map fun (i : Nat) => if i = 0 then 0 else (comL (x.drop (l.getD (i - 1) 0).toNat) (x.drop (l.getD i 0).toNat) : Int)
theorem commonsL_len (x l : List Int) : (commonsL x l).length = l.length := by simp [commonsL]
theorem commonsL_get (x l : List Int) (i : Nat) (h : i < l.length) : (commonsL x l).getD i 0 = if i = 0 then 0 else (comL (x.drop (l.getD (i - 1) 0).toNat) (x.drop (l.getD i 0).toNat) : Int) := by
  simp [commonsL, List.getD_eq_getElem?_getD, h]
theorem swap_eq {l : List Int} (hg : Good l) (a b : Nat) (ha : a < l.length) (hb : b < l.length) : (l.set a (l.getD b 0)).set b (l.getD a 0) = l ↔ a = b := by
  constructor
  · intro h
    have h2 := congrArg (fun z => z.getD b 0) h
    simp only [List.getD_eq_getElem?_getD, List.getElem?_set, List.length_set, hb, if_true, Option.getD_some] at h2
    refine good_inj hg ha hb ?_
    simp only [List.getD_eq_getElem?_getD]
    exact h2
  · rintro rfl
    refine List.ext_getElem (by simp) fun i h1 h2 => ?_
    simp only [List.getElem_set]
    by_cases e : a = i
    · subst e
      rw [if_pos rfl, getD_lt _ _ _ ha]
    · rw [if_neg e, if_neg e]
end Go.Proofs.Ythkofhidhghmmaa.IndPure
