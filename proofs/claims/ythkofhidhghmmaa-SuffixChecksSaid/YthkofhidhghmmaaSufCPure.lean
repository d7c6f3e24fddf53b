/- Layer 15: the pure side of SuffixChecks (wip/tools/mksufs.py wrote it out of SufPure1 to SufPure7). -/
import Derived.Test.YthkofhidhghmmaaPSufCx7
import Derived.Test.YthkofhidhghmmaaEvW
namespace Go.Proofs.Ythkofhidhghmmaa.SufCPure
open Go.RowKit Go.Proofs.Ythkofhidhghmmaa Go.Proofs.Ythkofhidhghmmaa.PSufC Go.Proofs.YthkofhidhghmmaaW.PrintWords Go.Proofs.YthkofhidhghmmaaW.PrintMore
set_option linter.unusedVariables false

theorem known_mono : ∀ k, LeO (incipitlaw15_known.f k) (incipitlaw15_known.f (k + 1)) := incipitlaw15_known.mono
set_option maxRecDepth 100000 in
theorem known : Ev (fun k => incipitlaw15_known.f k) true := Ev.of known_mono (k := 60) (by kernel_rfl)
theorem raw (l : List Int) : incipitlaw15_raw.f l = some (l.take 60) := by
  unfold incipitlaw15_raw.f
  have h1 : 0 ≤ mn (l.length : Int) 60 := mn_nonneg l.length 60
  have h2 : mn (l.length : Int) 60 ≤ (l.length : Int) := mn_le l.length 60
  have h3 : l.take (mn (l.length : Int) 60).toNat = l.take 60 := take_mn l 60
  rw [if_pos h1, if_pos h2, h3]
/-! ### Same -/
theorem same6_l (a b : List Int) (hl : a.length = b.length) (hs : a.length < 4611686018427387904) : ∀ d i : Nat, i + d = a.length → Ev (fun k => incipitref06_Same.l0 k a b (i : Int)) (decide (a.drop i = b.drop i)) := by
  intro d
  induction d with
  | zero =>
    intro i hi
    rw [List.drop_of_length_le (by omega), List.drop_of_length_le (by omega), decide_eq_true rfl]
    exact Ev_now fun k => by simp only [incipitref06_Same.l0]; rw [if_neg (by omega)]
  | succ d ih =>
    intro i hi
    rw [drop_cons a i 0 (by omega), drop_cons b i 0 (by omega)]
    by_cases e : a.getD i 0 = b.getD i 0
    · rw [e]
      simp only [List.cons.injEq, true_and]
      exact Ev_to (ih (i + 1) (by omega)) fun k => by
        simp only [incipitref06_Same.l0]
        rw [if_pos (by omega), if_pos (by omega), if_pos (by omega), if_pos (by rw [rd_nat, rd_nat, e]), w_succ i (by omega)]
    · rw [decide_eq_false (by simp only [List.cons.injEq]; exact fun h => e h.1)]
      exact Ev_now fun k => by
        simp only [incipitref06_Same.l0]
        rw [if_pos (by omega), if_pos (by omega), if_pos (by omega), if_neg (by rw [rd_nat, rd_nat]; exact e)]
theorem same6 (a b : List Int) (hs : a.length < 4611686018427387904) : Ev (fun k => incipitref06_Same.f k a b) (decide (a = b)) := by
  by_cases h : a.length = b.length
  · have := same6_l a b h hs a.length 0 (by omega)
    simp only [List.drop_zero] at this
    exact Ev_as this fun k => by unfold incipitref06_Same.f; rw [if_pos (by omega)]; rfl
  · rw [decide_eq_false (fun e => h (by rw [e]))]
    exact Ev_eq fun k => by unfold incipitref06_Same.f; rw [if_neg (by omega)]

/-- Each place once. -/
def Good (l : List Int) : Prop := l.Nodup ∧ ∀ x ∈ l, 0 ≤ x ∧ x < (l.length : Int)
instance (l : List Int) : Decidable (Good l) := by unfold Good; infer_instance
def GoodP (n : Nat) (l : List Int) : Prop := l.Nodup ∧ ∀ x ∈ l, 0 ≤ x ∧ x < (n : Int)
/-- Where each number of a row stands. -/
def outOf (n : Nat) (p : List Int) : List Int := (List.range n).map fun (v : Nat) => if (v : Int) ∈ p then (p.idxOf (v : Int) : Int) else -1
theorem outOf_len (n : Nat) (p : List Int) : (outOf n p).length = n := by simp [outOf]
theorem outOf_get (n : Nat) (p : List Int) (v : Nat) (h : v < n) : (outOf n p).getD v 0 = if (v : Int) ∈ p then (p.idxOf (v : Int) : Int) else -1 := by
  simp [outOf, List.getD_eq_getElem?_getD, h]
theorem outOf_nil (n : Nat) : outOf n [] = List.replicate n (-1) := by
  refine List.ext_getElem (by simp [outOf]) fun i h1 h2 => by simp [outOf]
theorem outOf_snoc (n : Nat) (p : List Int) (v : Nat) (hv : (v : Int) ∉ p) : (outOf n p).set v (p.length : Int) = outOf n (p ++ [(v : Int)]) := by
  refine List.ext_getElem (by simp [outOf]) fun i h1 h2 => ?_
  rw [List.getElem_set]
  simp only [outOf, List.getElem_map, List.getElem_range]
  by_cases h : v = i
  · subst h
    simp [List.idxOf_append, hv]
  · rw [if_neg h]
    by_cases hi : (i : Int) ∈ p
    · simp [hi, List.idxOf_append]
    · have : ¬ (i : Int) = (v : Int) := by omega
      simp [hi, this]

theorem goodP_snoc {n : Nat} {p : List Int} {v : Int} (h : GoodP n p) (h0 : 0 ≤ v) (h1 : v < n) (hv : v ∉ p) : GoodP n (p ++ [v]) := by
  refine ⟨?_, fun x hx => ?_⟩
  · rw [List.nodup_append]
    refine ⟨h.1, by simp, fun a ha b hb => ?_⟩
    rw [List.mem_singleton] at hb
    subst hb
    exact fun e => hv (e ▸ ha)
  · rcases List.mem_append.1 hx with hx | hx
    · exact h.2 x hx
    · rw [List.mem_singleton] at hx; subst hx; exact ⟨h0, h1⟩
def turnedR (l : List Int) : List Int × Int := if Good l then (outOf l.length l, 0) else ([], 3)
theorem turned_l1 (l : List Int) (n : Nat) (hn : l.length = n) (hb : n < 1000000) : ∀ d i : Nat, i + d = n → GoodP n (l.take i) → Ev (fun k => suffix_Turned.l1 k l (outOf n (l.take i)) l (n : Int) (i : Int)) (turnedR l) := by
  intro d
  induction d with
  | zero =>
    intro i hi hg
    rw [List.take_of_length_le (by omega)] at hg ⊢
    have hG : Good l := ⟨hg.1, by rw [hn]; exact hg.2⟩
    unfold turnedR
    rw [if_pos hG]
    exact Ev_now fun k => by simp only [suffix_Turned.l1]; rw [if_neg (by omega), hn]
  | succ d ih =>
    intro i hi hg
    have hm := getD_mem l i 0 (by omega)
    have ht := take_succ_getD l i 0 (by omega)
    generalize hv : l.getD i 0 = v at hm ht
    by_cases h0 : v < 0
    · have hG : ¬ Good l := fun h => by have := h.2 v hm; omega
      unfold turnedR
      rw [if_neg hG]
      exact Ev_now fun k => by
        simp only [suffix_Turned.l1]
        rw [if_pos (by omega), if_pos (by omega), if_pos (by omega), if_pos (by rw [rd_nat, hv]; exact h0)]
    · by_cases h1 : (l.length : Int) ≤ v
      · have hG : ¬ Good l := fun h => by have := h.2 v hm; omega
        unfold turnedR
        rw [if_neg hG]
        exact Ev_now fun k => by
          simp only [suffix_Turned.l1]
          rw [if_pos (by omega), if_pos (by omega), if_pos (by omega), if_neg (by rw [rd_nat, hv]; exact h0), if_pos (by rw [rd_nat, hv]; exact h1)]
      · obtain ⟨u, rfl⟩ := Int.eq_ofNat_of_zero_le (show 0 ≤ v by omega)
        have hu : u < n := by omega
        have hr : rd (outOf n (l.take i)) (u : Int) = if (u : Int) ∈ l.take i then ((l.take i).idxOf (u : Int) : Int) else -1 := outOf_get n _ u hu
        by_cases hin : (u : Int) ∈ l.take i
        · have hG : ¬ Good l := fun h => by
            have := h.1
            rw [← List.take_append_drop i l, List.nodup_append] at this
            refine this.2.2 _ hin _ ?_ rfl
            rw [drop_cons l i 0 (by omega), hv]
            exact List.mem_cons_self ..
          unfold turnedR
          rw [if_neg hG]
          rw [if_pos hin] at hr
          exact Ev_now fun k => by
            simp only [suffix_Turned.l1]
            rw [if_pos (by omega), if_pos (by omega), if_pos (by omega), rd_nat, hv, if_neg h0, if_neg (by omega), if_pos (by omega), if_pos (by rw [outOf_len]; omega), if_pos (by rw [hr]; omega)]
        · rw [if_neg hin] at hr
          have hs := outOf_snoc n (l.take i) u hin
          rw [← ht, List.length_take, Nat.min_eq_left (by omega)] at hs
          refine Ev_to (ih (i + 1) (by omega) (by rw [ht]; exact goodP_snoc hg (by omega) (by omega) hin)) fun k => ?_
          simp only [suffix_Turned.l1]
          rw [if_pos (by omega), if_pos (by omega), if_pos (by omega), rd_nat, hv, if_neg h0, if_neg (by omega), if_pos (by omega), if_pos (by rw [outOf_len]; omega), if_neg (by rw [hr]; omega), w_succ i (by omega), Int.toNat_natCast, hs]
theorem turned_l0 (l : List Int) (n : Nat) (hn : l.length = n) (hb : n < 1000000) :
    ∀ d i : Nat, i + d = n → ∀ o : List Int, o.length = n → o.take i = List.replicate i (-1) → Ev (fun k => suffix_Turned.l0 k l o (n : Int) (i : Int)) (turnedR l) := by
  intro d
  induction d with
  | zero =>
    intro i hi o ho hr
    rw [List.take_of_length_le (by omega)] at hr
    have h := turned_l1 l n hn hb n 0 (by omega) ⟨by simp, by simp⟩
    rw [List.take_zero, outOf_nil, show n = i by omega, ← hr] at h
    exact Ev_to h fun k => by
      simp only [suffix_Turned.l0]
      rw [if_neg (by omega), hn, show n = i by omega]; rfl
  | succ d ih =>
    intro i hi o ho hr
    refine Ev_to (ih (i + 1) (by omega) (o.set i (-1)) (by rw [List.length_set, ho]) ?_) fun k => ?_
    · rw [take_succ_getD _ i 0 (by rw [List.length_set]; omega), List.take_set_of_le (Nat.le_refl _), hr, List.replicate_succ']
      simp [List.getD_eq_getElem?_getD, show i < o.length by omega]
    · simp only [suffix_Turned.l0]
      rw [if_pos (by omega), if_pos (by omega), if_pos (by omega), w_succ i (by omega), Int.toNat_natCast]
theorem turned (l : List Int) (hb : l.length < 1000000) : Ev (fun k => suffix_Turned.f k l) (turnedR l) := by
  have h := turned_l0 l l.length rfl hb l.length 0 (by omega) (List.replicate l.length 0) (by simp) (by simp)
  exact Ev_as h fun k => by
    unfold suffix_Turned.f
    rw [if_pos (by omega), if_pos (by omega), Option.bind_some, Int.toNat_natCast, List.length_replicate]; rfl

/-! ### the document's -/
def AllIn (l : List Int) (n : Nat) : Prop := ∀ u : Nat, u < n → (u : Int) ∈ l
instance (l : List Int) (n : Nat) : Decidable (AllIn l n) := by unfold AllIn; infer_instance
/-! ### each place once -/
theorem pigeon {α : Type} [DecidableEq α] : ∀ (a b : List α), a.Nodup → (∀ x ∈ a, x ∈ b) → a.length ≤ b.length
  | [], _, _, _ => Nat.zero_le _
  | x :: a, b, hd, hs => by
    have hd' := List.nodup_cons.1 hd
    have hx := hs x (List.mem_cons_self ..)
    have := pigeon a (b.erase x) hd'.2 fun y hy => (List.mem_erase_of_ne (fun (e : y = x) => hd'.1 (e ▸ hy))).2 (hs y (List.mem_cons_of_mem _ hy))
    rw [List.length_erase_of_mem hx] at this
    have := List.length_pos_of_mem hx
    simp only [List.length_cons]
    omega
theorem nodup_of_erase {α : Type} [DecidableEq α] : ∀ (l : List α), (∀ x ∈ l, x ∉ l.erase x) → l.Nodup
  | [], _ => List.nodup_nil
  | a :: t, h => by
    have h0 : a ∉ t := by have := h a (List.mem_cons_self ..); rwa [List.erase_cons_head] at this
    refine List.nodup_cons.2 ⟨h0, nodup_of_erase t fun x hx hx2 => ?_⟩
    have := h x (List.mem_cons_of_mem _ hx)
    rw [List.erase_cons_tail (by simp; exact fun e => h0 (e ▸ hx))] at this
    exact this (List.mem_cons_of_mem _ hx2)
def placesI (n : Nat) : List Int := (List.range n).map fun (v : Nat) => (v : Int)
theorem placesI_nodup (n : Nat) : (placesI n).Nodup := by
  unfold placesI
  unfold List.Nodup
  rw [List.pairwise_map]
  exact List.nodup_range.imp fun h e => h (by omega)
theorem mem_placesI (n : Nat) (x : Int) : x ∈ placesI n ↔ 0 ≤ x ∧ x < n := by
  unfold placesI
  rw [List.mem_map]
  constructor
  · rintro ⟨u, hu, rfl⟩; rw [List.mem_range] at hu; omega
  · rintro ⟨h0, h1⟩
    exact ⟨x.toNat, List.mem_range.2 (by omega), by omega⟩
theorem placesI_len (n : Nat) : (placesI n).length = n := by simp [placesI]
theorem good_iff (l : List Int) : Good l ↔ AllIn l l.length := by
  constructor
  · intro h u hu
    refine Classical.byContradiction fun hn => ?_
    have := pigeon ((u : Int) :: l) (placesI l.length) (List.nodup_cons.2 ⟨hn, h.1⟩) fun x hx => by
      rw [mem_placesI]
      rcases List.mem_cons.1 hx with rfl | hx
      · omega
      · exact h.2 x hx
    rw [placesI_len, List.length_cons] at this
    omega
  · intro h
    have hs : ∀ x ∈ placesI l.length, x ∈ l := fun x hx => by
      rw [mem_placesI] at hx
      have := h x.toNat (by omega)
      rwa [Int.toNat_of_nonneg hx.1] at this
    refine ⟨nodup_of_erase l fun x hx hx2 => ?_, fun x hx => ?_⟩
    · have := pigeon (placesI l.length) (l.erase x) (placesI_nodup _) fun y hy => by
        by_cases e : y = x
        · rw [e]; exact hx2
        · exact (List.mem_erase_of_ne e).2 (hs y hy)
      rw [placesI_len, List.length_erase_of_mem hx] at this
      have := List.length_pos_of_mem hx
      omega
    · refine Classical.byContradiction fun hn => ?_
      have := pigeon (x :: placesI l.length) l (List.nodup_cons.2 ⟨fun h => hn ((mem_placesI _ _).1 h), placesI_nodup _⟩) fun y hy => by
        rcases List.mem_cons.1 hy with rfl | hy
        · exact hx
        · exact hs y hy
      rw [List.length_cons, placesI_len] at this
      omega
theorem good_all {l : List Int} (h : Good l) {u : Nat} (hu : u < l.length) : (u : Int) ∈ l := (good_iff l).1 h u hu
theorem outOf_good {l : List Int} (h : Good l) (v : Nat) (hv : v < l.length) : (outOf l.length l).getD v 0 = (l.idxOf (v : Int) : Int) := by
  rw [outOf_get _ _ _ hv, if_pos (good_all h hv)]
theorem idxOf_getD {l : List Int} {x : Int} (h : x ∈ l) : l.getD (l.idxOf x) 0 = x := by
  have := List.idxOf_lt_length_iff.2 h
  rw [getD_lt _ _ _ this]
  exact List.getElem_idxOf this
theorem good_turned {l : List Int} (h : Good l) : Good (outOf l.length l) := by
  refine ⟨?_, fun x hx => ?_⟩
  · unfold List.Nodup
    rw [List.pairwise_iff_getElem]
    intro i j hi hj hij e
    rw [outOf_len] at hi hj
    have e1 := outOf_good h i hi
    have e2 := outOf_good h j hj
    rw [getD_lt _ _ _ (by rw [outOf_len]; omega)] at e1 e2
    have e3 : l.idxOf (i : Int) = l.idxOf (j : Int) := by omega
    have e4 := idxOf_getD (good_all h hi)
    rw [e3, idxOf_getD (good_all h hj)] at e4
    omega
  · obtain ⟨i, hi, rfl⟩ := List.getElem_of_mem hx
    rw [outOf_len] at hi ⊢
    have e1 := outOf_good h i hi
    rw [getD_lt _ _ _ (by rw [outOf_len]; omega)] at e1
    have := List.idxOf_lt_length_iff.2 (good_all h hi)
    omega
theorem turned_twice {l : List Int} (h : Good l) : outOf l.length (outOf l.length l) = l := by
  have hg := good_turned h
  refine List.ext_getElem (by simp [outOf]) fun v h1 h2 => ?_
  have e1 := outOf_good hg v (by rw [outOf_len]; exact h2)
  rw [outOf_len, getD_lt _ _ _ h1] at e1
  rw [e1]
  have hm := good_all hg (u := v) (by rw [outOf_len]; exact h2)
  have hlt := List.idxOf_lt_length_iff.2 hm
  have e2 := idxOf_getD hm
  rw [outOf_len] at hlt
  rw [outOf_good h _ hlt] at e2
  have e3 := idxOf_getD (good_all h hlt)
  rw [show l.idxOf (((outOf l.length l).idxOf (v : Int) : Nat) : Int) = v by omega, getD_lt _ _ _ h2] at e3
  exact e3.symm


/-! ### what is a text -/
theorem index_l (l : List Int) (hb : l.length < 1000000) (v : Int) : ∀ d i : Nat, i + d = l.length → v ∉ l.take i → Ev (fun k => slices_Index_int_int.l0 k l v (l.length : Int) (i : Int)) (if v ∈ l then (l.idxOf v : Int) else -1) := by
  intro d
  induction d with
  | zero =>
    intro i hi hn
    rw [List.take_of_length_le (by omega)] at hn
    rw [if_neg hn]
    exact Ev_now fun k => by simp only [slices_Index_int_int.l0]; rw [if_neg (by omega)]
  | succ d ih =>
    intro i hi hn
    by_cases e : v = l.getD i 0
    · have hm := getD_mem l i 0 (by omega)
      have hx : l.idxOf v = i := by
        conv => lhs; rw [← List.take_append_drop i l]
        rw [List.idxOf_append, if_neg hn, drop_cons l i 0 (by omega), ← e, List.idxOf_cons_self, List.length_take]
        omega
      rw [if_pos (by rw [e]; exact hm), hx]
      exact Ev_now fun k => by
        simp only [slices_Index_int_int.l0]
        rw [if_pos (by omega), if_pos (by omega), if_pos (by omega), if_pos (by rw [rd_nat]; exact e)]
    · refine Ev_to (ih (i + 1) (by omega) ?_) fun k => ?_
      · rw [take_succ_getD l i 0 (by omega)]
        simp only [List.mem_append, List.mem_singleton, not_or]
        exact ⟨hn, e⟩
      · simp only [slices_Index_int_int.l0]
        rw [if_pos (by omega), if_pos (by omega), if_pos (by omega), if_neg (by rw [rd_nat]; exact e), w_succ i (by omega)]
theorem index (l : List Int) (hb : l.length < 1000000) (v : Int) : Ev (fun k => slices_Index_int_int.f k l v) (if v ∈ l then (l.idxOf v : Int) else -1) := index_l l hb v l.length 0 (by omega) (by simp)
/-- Codes, and a nought at the end alone. -/
structure Txt (l : List Int) : Prop where
  rng : ∀ x ∈ l, 0 ≤ x ∧ x < 65536
  last : ∀ i : Nat, i < l.length → (l.getD i 0 = 0 ↔ i + 1 = l.length)
  pos : 0 < l.length
def chk (l : List Int) : Int := if l.any badCode = true then 10 else if (if (0 : Int) ∈ l then (l.idxOf 0 : Int) else -1) = (l.length : Int) - 1 then (if l.length = 0 then 3 else 0) else 3
theorem txt_iff (l : List Int) : chk l = 0 ↔ Txt l := by
  unfold chk
  have hbad : l.any badCode = true ↔ ¬ ∀ x ∈ l, 0 ≤ x ∧ x < 65536 := by
    rw [List.any_eq_true]
    constructor
    · rintro ⟨x, hx, hb⟩ h
      have := h x hx
      unfold badCode at hb
      simp at hb
      omega
    · intro h
      refine Classical.byContradiction fun hn => h fun x hx => Classical.byContradiction fun h2 => hn ⟨x, hx, ?_⟩
      unfold badCode
      simp
      omega
  by_cases h1 : l.any badCode = true
  · rw [if_pos h1]
    exact ⟨fun h => absurd h (by decide), fun h => absurd h.rng (hbad.1 h1)⟩
  · rw [if_neg h1]
    have hr : ∀ x ∈ l, 0 ≤ x ∧ x < 65536 := Classical.byContradiction fun h => h1 (hbad.2 h)
    by_cases h2 : (0 : Int) ∈ l
    · rw [if_pos h2]
      have hlt := List.idxOf_lt_length_iff.2 h2
      by_cases h3 : (l.idxOf (0 : Int) : Int) = (l.length : Int) - 1
      · rw [if_pos h3, if_neg (by omega)]
        refine ⟨fun _ => ⟨hr, fun i hi => ⟨fun e => ?_, fun e => ?_⟩, by omega⟩, fun _ => rfl⟩
        · refine Classical.byContradiction fun hne => ?_
          have hlt2 : i < l.idxOf (0 : Int) := by omega
          have := List.not_of_lt_findIdx (p := (· == (0 : Int))) (xs := l) hlt2
          rw [getD_lt l i 0 hi] at e
          simp [e] at this
        · have := idxOf_getD h2
          rwa [show l.idxOf (0 : Int) = i by omega] at this
      · rw [if_neg h3]
        refine ⟨fun h => absurd h (by decide), fun h => ?_⟩
        have := (h.last _ hlt).1 (idxOf_getD h2)
        omega
    · rw [if_neg h2]
      by_cases h3 : (-1 : Int) = (l.length : Int) - 1
      · rw [if_pos h3, if_pos (by omega)]
        exact ⟨fun h => absurd h (by decide), fun h => absurd h.pos (by omega)⟩
      · rw [if_neg h3]
        refine ⟨fun h => absurd h (by decide), fun h => absurd ?_ h2⟩
        have h4 := (h.last (l.length - 1) (by have := h.pos; omega)).2 (by have := h.pos; omega)
        rw [← h4]
        exact getD_mem l _ 0 (by have := h.pos; omega)
instance (l : List Int) : Decidable (Txt l) := decidable_of_iff _ (txt_iff l)
theorem inKs_true {l : List Int} (h : ∀ x ∈ l, (Lit.int .i64 x).wf = true) : inKs .i64 l = true := List.all_eq_true.2 h
theorem check (l : List Int) (hb : l.length ≤ 65536) (hw : ∀ x ∈ l, (Lit.int .i64 x).wf = true) : Ev (fun k => suffix_Check.f k l) (chk l) := by
  unfold suffix_Check.f
  simp only [if_neg (show ¬ 65536 < l.length by omega), if_pos (inKs_true hw)]
  unfold chk
  by_cases h1 : l.any badCode = true
  · simp only [if_pos h1]; exact Ev.now _
  · simp only [if_neg h1]
    refine Ev.bind (index l (by omega) 0) ?_
    by_cases h3 : (if (0 : Int) ∈ l then (l.idxOf 0 : Int) else -1) = (l.length : Int) - 1
    · simp only [if_pos h3]
      by_cases h0 : l.length = 0
      · simp only [if_pos h0]; exact Ev.now _
      · simp only [if_neg h0]; exact Ev.now _
    · simp only [if_neg h3]; exact Ev.now _

/-! ### how a suffix is against another one -/
theorem cmpI (a b : Int) : cmp_Compare_int.f a b = some (if a < b then -1 else if b < a then 1 else 0) := by
  unfold cmp_Compare_int.f cmp_isNaN_int.f
  simp only [bne_self_eq_false, Option.bind_some, if_neg (show ¬ false = true by decide)]
  by_cases h : a < b
  · rw [if_pos h, if_pos h]
  · rw [if_neg h, if_neg h]
    by_cases h2 : b < a
    · rw [if_pos (show a > b from h2), if_pos h2]
    · rw [if_neg (show ¬ a > b from h2), if_neg h2]
theorem compare_l (a b : List Int) (hb : a.length < 1000000) : ∀ d i : Nat, i + d = a.length → i ≤ b.length → Ev (fun k => slices_Compare_int_int.l0 k a b a (a.length : Int) (i : Int)) (lexC (a.drop i) (b.drop i)) := by
  intro d
  induction d with
  | zero =>
    intro i hi hib
    rw [List.drop_of_length_le (by omega)]
    by_cases h : i < b.length
    · rw [drop_cons b i 0 h]
      exact Ev_now fun k => by simp only [slices_Compare_int_int.l0]; rw [if_neg (by omega), if_pos (by omega)]; rfl
    · rw [List.drop_of_length_le (by omega)]
      exact Ev_now fun k => by simp only [slices_Compare_int_int.l0]; rw [if_neg (by omega), if_neg (by omega)]; rfl
  | succ d ih =>
    intro i hi hib
    rw [drop_cons a i 0 (by omega)]
    by_cases h : i < b.length
    · rw [drop_cons b i 0 h]
      unfold lexC
      by_cases h1 : a.getD i 0 < b.getD i 0
      · rw [if_pos h1]
        exact Ev_now fun k => by
          simp only [slices_Compare_int_int.l0]
          rw [if_pos (by omega), if_pos (by omega), if_pos (by omega), if_neg (by omega), if_pos (by omega), cmpI, rd_nat, rd_nat, if_pos h1, Option.bind_some, if_neg (by decide)]
      · by_cases h2 : b.getD i 0 < a.getD i 0
        · rw [if_neg h1, if_pos h2]
          exact Ev_now fun k => by
            simp only [slices_Compare_int_int.l0]
            rw [if_pos (by omega), if_pos (by omega), if_pos (by omega), if_neg (by omega), if_pos (by omega), cmpI, rd_nat, rd_nat, if_neg h1, if_pos h2, Option.bind_some, if_neg (by decide)]
        · rw [if_neg h1, if_neg h2]
          exact Ev_to (ih (i + 1) (by omega) (by omega)) fun k => by
            simp only [slices_Compare_int_int.l0]
            rw [if_pos (by omega), if_pos (by omega), if_pos (by omega), if_neg (by omega), if_pos (by omega), cmpI, rd_nat, rd_nat, if_neg h1, if_neg h2, Option.bind_some, if_pos rfl, w_succ i (by omega)]
    · rw [List.drop_of_length_le (l := b) (by omega)]
      exact Ev_now fun k => by
        simp only [slices_Compare_int_int.l0]
        rw [if_pos (by omega), if_pos (by omega), if_pos (by omega), if_pos (by omega)]; rfl
theorem compare (a b : List Int) (hb : a.length < 1000000) : Ev (fun k => slices_Compare_int_int.f k a b) (lexC a b) := by
  have := compare_l a b hb a.length 0 (by omega) (by omega)
  rwa [List.drop_zero, List.drop_zero] at this
theorem order (l : List Int) (hb : l.length < 1000000) (i j : Nat) (hi : i ≤ l.length) (hj : j ≤ l.length) : Ev (fun k => suffix_order.f k l (i : Int) (j : Int)) (cmpS l i j) := by
  unfold suffix_order.f
  simp only [if_pos (show (0 : Int) ≤ i by omega), if_pos (show (i : Int) ≤ l.length by omega), if_pos (show (0 : Int) ≤ j by omega), if_pos (show (j : Int) ≤ l.length by omega), Int.toNat_natCast]
  exact Ev.bind (compare _ _ (by rw [List.length_drop]; omega)) (Ev.now _)
theorem Ev.all {g : Nat → Nat → Bool} {n : Nat} (h : ∀ i, i < n → ∃ K, ∀ k, K ≤ k → g k i = true) : ∃ K, ∀ k, K ≤ k → (List.range n).all (g k) = true := by
  induction n with
  | zero => exact ⟨0, fun k _ => rfl⟩
  | succ n ih =>
    obtain ⟨K, hK⟩ := ih fun i hi => h i (by omega)
    obtain ⟨M, hM⟩ := h n (by omega)
    refine ⟨K + M, fun k hk => ?_⟩
    rw [List.range_succ, List.all_append, hK k (by omega)]
    simp [hM k (by omega)]
theorem sort_ok (l : List Int) (hb : l.length < 1000000) : ∃ K, ∀ k, K ≤ k → suffix_Sort.ok k l = true := by
  unfold suffix_Sort.ok
  refine Ev.all fun i hi => Ev.all fun j hj => ?_
  obtain ⟨K, hK⟩ := order l hb i j (by omega) (by omega)
  exact ⟨K, fun k hk => decide_eq_true (hK k hk)⟩
theorem sort (l : List Int) (hb : l.length ≤ 65536) (hw : ∀ x ∈ l, (Lit.int .i64 x).wf = true) : Ev (fun k => suffix_Sort.f k l) (if Txt l then (sortS l, 0) else ([], chk l)) := by
  unfold suffix_Sort.f
  refine Ev.bind (check l hb hw) ?_
  simp only [if_pos (inKs_true hw)]
  by_cases h : Txt l
  · simp only [if_pos ((txt_iff l).2 h), if_pos h]
    obtain ⟨K, hK⟩ := sort_ok l (by omega)
    have hp := h.pos
    refine ⟨K, fun k hk => ?_⟩
    have h2 : (decide (l.length ≤ 65536) && !l.isEmpty && suffix_Sort.ok k l) = true := by
      rw [hK k hk]
      cases l with
      | nil => simp at hp
      | cons a t => simp at hb ⊢; omega
    simp only [h2, if_true]
  · simp only [if_neg (fun e => h ((txt_iff l).1 e)), if_neg h]
    exact Ev.now _

/-! ### right -/
/-- Two neighbours of an order. -/
def okN (x l : List Int) (i : Nat) : Prop := ¬ (x.getD (l.getD (i - 1) 0).toNat 0 > x.getD (l.getD i 0).toNat 0 ∨ x.getD (l.getD (i - 1) 0).toNat 0 = x.getD (l.getD i 0).toNat 0 ∧ (outOf l.length l).getD ((l.getD (i - 1) 0).toNat + 1) 0 > (outOf l.length l).getD ((l.getD i 0).toNat + 1) 0)
instance (x l : List Int) (i : Nat) : Decidable (okN x l i) := by unfold okN; infer_instance
theorem good_nat {l : List Int} (h : Good l) (i : Nat) (hi : i < l.length) : ∃ a : Nat, l.getD i 0 = (a : Int) ∧ a < l.length := by
  have := h.2 _ (getD_mem l i 0 hi)
  exact ⟨(l.getD i 0).toNat, by omega, by omega⟩
theorem good_inj {l : List Int} (h : Good l) {i j : Nat} (hi : i < l.length) (hj : j < l.length) (e : l.getD i 0 = l.getD j 0) : i = j := by
  rw [getD_lt _ _ _ hi, getD_lt _ _ _ hj] at e
  have hp := List.pairwise_iff_getElem.1 h.1
  rcases Nat.lt_trichotomy i j with h1 | h1 | h1
  · exact absurd e (hp i j hi hj h1)
  · exact h1
  · exact absurd e.symm (hp j i hj hi h1)
theorem right_l {x l : List Int} (hx : Txt x) (hg : Good l) (hl : l.length = x.length) (hb : x.length ≤ 65536) : ∀ d i : Nat, i + d = l.length → 1 ≤ i → (∀ j, 1 ≤ j → j < i → okN x l j) →
    Ev (fun k => suffix_Right.l0 k x l (outOf l.length l) (i : Int)) (decide (∀ j, j < l.length → 1 ≤ j → okN x l j)) := by
  intro d
  induction d with
  | zero =>
    intro i hi h1 hok
    rw [decide_eq_true (fun j h1 h2 => hok j h2 (by omega))]
    exact Ev_now fun k => by simp only [suffix_Right.l0]; rw [if_neg (by omega)]
  | succ d ih =>
    intro i hi h1 hok
    obtain ⟨a, ha, hal⟩ := good_nat hg (i - 1) (by omega)
    obtain ⟨b, hbb, hbl⟩ := good_nat hg i (by omega)
    have hw1 : wrap64 ((i : Int) - 1) = ((i - 1 : Nat) : Int) := by rw [w_id] <;> omega
    have hne : a ≠ b := fun e => by
      have := good_inj hg (i := i - 1) (j := i) (by omega) (by omega) (by rw [ha, hbb, e])
      omega
    have hof : okN x l i ↔ ¬ (x.getD a 0 > x.getD b 0 ∨ x.getD a 0 = x.getD b 0 ∧ (outOf l.length l).getD (a + 1) 0 > (outOf l.length l).getD (b + 1) 0) := by
      unfold okN
      rw [ha, hbb, Int.toNat_natCast, Int.toNat_natCast]
    have hno : ¬ okN x l i → decide (∀ j, j < l.length → 1 ≤ j → okN x l j) = false := fun h => decide_eq_false fun h2 => h (h2 i (by omega) h1)
    have hnext : okN x l i → Ev (fun k => suffix_Right.l0 k x l (outOf l.length l) ((i + 1 : Nat) : Int)) (decide (∀ j, j < l.length → 1 ≤ j → okN x l j)) := fun h => ih (i + 1) (by omega) (by omega) fun j h1 h2 => by
      by_cases e : j = i
      · rw [e]; exact h
      · exact hok j h1 (by omega)
    by_cases h2 : x.getD a 0 > x.getD b 0
    · rw [hno (fun h => hof.1 h (.inl h2))]
      exact Ev_now fun k => by
        simp only [suffix_Right.l0]
        rw [if_pos (by omega), hw1, if_pos (by omega), if_pos (by omega), if_pos (by omega), rd_nat l, rd_nat l, ha, hbb, if_pos (by omega), if_pos (by omega), if_pos (by omega), if_pos (by omega), if_pos (by rw [rd_nat, rd_nat]; exact h2)]
    · by_cases h3 : x.getD a 0 = x.getD b 0
      · have ha1 : a + 1 < l.length := Classical.byContradiction fun hn => by
          have e1 := (hx.last a (by omega)).2 (by omega)
          have e2 := (hx.last b (by omega)).1 (by omega)
          omega
        have hb1 : b + 1 < l.length := Classical.byContradiction fun hn => by
          have e1 := (hx.last b (by omega)).2 (by omega)
          have e2 := (hx.last a (by omega)).1 (by omega)
          omega
        by_cases h4 : (outOf l.length l).getD (a + 1) 0 > (outOf l.length l).getD (b + 1) 0
        · rw [hno (fun h => hof.1 h (.inr ⟨h3, h4⟩))]
          exact Ev_now fun k => by
            simp only [suffix_Right.l0]
            rw [if_pos (by omega), hw1, if_pos (by omega), if_pos (by omega), if_pos (by omega), rd_nat l, rd_nat l, ha, hbb, if_pos (by omega), if_pos (by omega), if_pos (by omega), if_pos (by omega), if_neg (by rw [rd_nat, rd_nat]; exact h2), if_pos (by rw [rd_nat, rd_nat]; exact h3), w_succ a (by omega), w_succ b (by omega), if_pos (by omega), if_pos (by rw [outOf_len]; omega), if_pos (by omega), if_pos (by rw [outOf_len]; omega), if_pos (by rw [rd_nat, rd_nat]; exact h4)]
        · exact Ev_to (hnext (hof.2 fun h => by rcases h with h | h; exact h2 h; exact h4 h.2)) fun k => by
            simp only [suffix_Right.l0]
            rw [if_pos (by omega), hw1, if_pos (by omega), if_pos (by omega), if_pos (by omega), rd_nat l, rd_nat l, ha, hbb, if_pos (by omega), if_pos (by omega), if_pos (by omega), if_pos (by omega), if_neg (by rw [rd_nat, rd_nat]; exact h2), if_pos (by rw [rd_nat, rd_nat]; exact h3), w_succ a (by omega), w_succ b (by omega), if_pos (by omega), if_pos (by rw [outOf_len]; omega), if_pos (by omega), if_pos (by rw [outOf_len]; omega), if_neg (by rw [rd_nat, rd_nat]; exact h4), w_succ i (by omega)]
      · exact Ev_to (hnext (hof.2 fun h => by rcases h with h | h; exact h2 h; exact h3 h.1)) fun k => by
          simp only [suffix_Right.l0]
          rw [if_pos (by omega), hw1, if_pos (by omega), if_pos (by omega), if_pos (by omega), rd_nat l, rd_nat l, ha, hbb, if_pos (by omega), if_pos (by omega), if_pos (by omega), if_pos (by omega), if_neg (by rw [rd_nat, rd_nat]; exact h2), if_neg (by rw [rd_nat, rd_nat]; exact h3), w_succ i (by omega)]
def RightP (x l : List Int) : Prop := Good l ∧ l.length = x.length ∧ Txt x ∧ ∀ j, j < l.length → 1 ≤ j → okN x l j
instance (x l : List Int) : Decidable (RightP x l) := by unfold RightP; infer_instance
theorem right (x l : List Int) (hb : x.length ≤ 65536) (hbl : l.length ≤ 65536) (hw : ∀ z ∈ x, (Lit.int .i64 z).wf = true) : Ev (fun k => suffix_Right.f k x l) (decide (RightP x l)) := by
  unfold suffix_Right.f
  refine Ev.bind (turned l (by omega)) ?_
  unfold turnedR
  by_cases hG : Good l
  · rw [if_pos hG]
    simp only [if_true]
    by_cases hl : l.length = x.length
    · simp only [if_pos (show (l.length : Int) = (x.length : Int) by omega)]
      refine Ev.bind (check x hb hw) ?_
      by_cases hx : Txt x
      · rw [(txt_iff x).2 hx]
        have h := right_l hx hG hl hb (l.length - 1) 1 (by have := hx.pos; omega) (by omega) (fun j h1 h2 => by omega)
        rw [show decide (RightP x l) = decide (∀ j, j < l.length → 1 ≤ j → okN x l j) from decide_eq_decide.2 ⟨fun h => h.2.2.2, fun h => ⟨hG, hl, hx, h⟩⟩]
        exact Ev_to h fun k => by simp only [suffix_Right.j0]; rw [if_neg (by decide)]; rfl
      · rw [decide_eq_false (fun h => hx h.2.2.1)]
        exact Ev_now fun k => by
          simp only [suffix_Right.j0]
          rw [if_pos (by simpa using fun e => hx ((txt_iff x).1 e))]
    · simp only [if_neg (show ¬ (l.length : Int) = (x.length : Int) by omega)]
      rw [decide_eq_false (fun h => hl h.2.1)]
      exact Ev_now fun k => by simp only [suffix_Right.j0, if_true]
  · rw [if_neg hG]
    rw [decide_eq_false (fun h => hG h.1)]
    exact Ev_now fun k => by simp only [if_neg (show ¬ (3 : Int) = 0 by decide), suffix_Right.j0, if_true]


theorem cmpS_step (x : List Int) (a b : Nat) (ha : a < x.length) (hb : b < x.length) : cmpS x a b = if x.getD a 0 < x.getD b 0 then -1 else if x.getD b 0 < x.getD a 0 then 1 else cmpS x (a + 1) (b + 1) := by
  unfold cmpS
  rw [drop_cons x a 0 ha, drop_cons x b 0 hb]
  rfl
theorem txt_eq {x : List Int} (hx : Txt x) {a b : Nat} (ha : a < x.length) (hb : b < x.length) (hne : a ≠ b) (h : x.getD a 0 = x.getD b 0) : a + 1 < x.length ∧ b + 1 < x.length := by
  have h1 := hx.last a ha
  have h2 := hx.last b hb
  constructor
  · refine Classical.byContradiction fun hn => ?_
    have e1 := h1.2 (by omega)
    have e2 := h2.1 (by omega)
    omega
  · refine Classical.byContradiction fun hn => ?_
    have e1 := h2.2 (by omega)
    have e2 := h1.1 (by omega)
    omega
theorem rises_idx {x : List Int} {o : List Nat} (h : Rises x o) {u v : Nat} (hu : u ∈ o) (hv : v ∈ o) (hc : cmpS x u v < 0) : o.idxOf u < o.idxOf v := by
  have h1 := List.idxOf_lt_length_iff.2 hu
  have h2 := List.idxOf_lt_length_iff.2 hv
  have e1 : o[o.idxOf u] = u := List.getElem_idxOf h1
  have e2 : o[o.idxOf v] = v := List.getElem_idxOf h2
  rcases Nat.lt_trichotomy (o.idxOf u) (o.idxOf v) with h3 | h3 | h3
  · exact h3
  · have : u = v := by rw [← e1, ← e2]; simp only [h3]
    rw [this, cmpS_self] at hc
    omega
  · have := List.pairwise_iff_getElem.1 h _ _ h2 h1 h3
    rw [e1, e2, cmpS_swap] at this
    omega
theorem idxOf_map_nat (o : List Nat) (v : Nat) : (o.map Int.ofNat).idxOf (v : Int) = o.idxOf v := by
  induction o with
  | nil => rfl
  | cons a t ih =>
    rw [List.map_cons, List.idxOf_cons, List.idxOf_cons, ih]
    by_cases h : a = v
    · subst h; simp
    · have h1 : (Int.ofNat a == (v : Int)) = false := by simp; omega
      have h2 : (a == v) = false := by simpa using h
      rw [h1, h2]
theorem sortS_good (x : List Int) : Good (sortS x) := by
  unfold sortS
  refine ⟨?_, fun z hz => ?_⟩
  · unfold List.Nodup
    rw [List.pairwise_map]
    have : (sortN x x.length).Nodup := (sortN_perm x x.length).nodup_iff.2 List.nodup_range
    exact this.imp fun h e => h (Int.ofNat.inj e)
  · obtain ⟨y, hy, rfl⟩ := List.mem_map.1 hz
    have := (sortN_mem x _ y).1 hy
    rw [List.length_map, sortN_len]
    constructor
    · exact Int.natCast_nonneg y
    · exact Int.ofNat_lt.2 this
theorem sortS_right {x : List Int} (hx : Txt x) : RightP x (sortS x) := by
  refine ⟨sortS_good x, sortS_len x, hx, fun j hj h1 => ?_⟩
  have hg := sortS_good x
  have hlen := sortN_len x x.length
  have hr := sortN_rises x x.length (Nat.le_refl _)
  have hget : ∀ i, i < x.length → ∃ a : Nat, (sortS x).getD i 0 = (a : Int) ∧ a < x.length ∧ (sortN x x.length)[i]? = some a := fun i hi => by
    have : i < (sortN x x.length).length := by omega
    refine ⟨(sortN x x.length)[i], ?_, (sortN_mem x _ _).1 (List.getElem_mem _), by simp [this]⟩
    unfold sortS
    simp [List.getD_eq_getElem?_getD, this]
  rw [sortS_len] at hj
  obtain ⟨a, ha, hal, ha2⟩ := hget (j - 1) (by omega)
  obtain ⟨b, hb, hbl, hb2⟩ := hget j hj
  obtain ⟨h3, e3⟩ := List.getElem?_eq_some_iff.1 ha2
  obtain ⟨h4, e4⟩ := List.getElem?_eq_some_iff.1 hb2
  have hc := List.pairwise_iff_getElem.1 hr _ _ h3 h4 (by omega)
  rw [e3, e4] at hc
  unfold okN
  rw [ha, hb, Int.toNat_natCast, Int.toNat_natCast]
  rw [cmpS_step x a b hal hbl] at hc
  rintro (h | ⟨h, h'⟩)
  · rw [if_neg (by omega), if_pos (by omega)] at hc
    omega
  · rw [if_neg (by omega), if_neg (by omega)] at hc
    have hne : a ≠ b := fun e => by rw [e, cmpS_self] at hc; omega
    obtain ⟨h5, h6⟩ := txt_eq hx hal hbl hne h
    have hi := rises_idx hr ((sortN_mem x _ _).2 h5) ((sortN_mem x _ _).2 h6) hc
    rw [outOf_good hg _ (by rw [sortS_len]; omega), outOf_good hg _ (by rw [sortS_len]; omega)] at h'
    unfold sortS at h'
    rw [idxOf_map_nat, idxOf_map_nat] at h'
    omega
/-- Whatever stands ahead is less, by the first number or by the rest's place. -/
theorem right_less {x l : List Int} (h : RightP x l) : ∀ d p q : Nat, p + d + 1 = q → q < l.length → ∀ a b : Nat, l.getD p 0 = (a : Int) → l.getD q 0 = (b : Int) →
    x.getD a 0 < x.getD b 0 ∨ x.getD a 0 = x.getD b 0 ∧ l.idxOf ((a + 1 : Nat) : Int) < l.idxOf ((b + 1 : Nat) : Int) := by
  obtain ⟨hg, hl, hx, hok⟩ := h
  intro d
  induction d with
  | zero =>
    intro p q hpq hq a b ha hb
    have hk := hok q hq (by omega)
    unfold okN at hk
    rw [show q - 1 = p by omega, ha, hb, Int.toNat_natCast, Int.toNat_natCast] at hk
    have hal : a < x.length := by have := hg.2 _ (getD_mem l p 0 (by omega)); omega
    have hbl : b < x.length := by have := hg.2 _ (getD_mem l q 0 (by omega)); omega
    by_cases h1 : x.getD a 0 < x.getD b 0
    · exact .inl h1
    · have h2 : x.getD a 0 = x.getD b 0 := by
        by_cases h3 : x.getD a 0 > x.getD b 0
        · exact absurd (.inl h3) hk
        · omega
      have hne : a ≠ b := fun e => by
        have := good_inj hg (i := p) (j := q) (by omega) (by omega) (by rw [ha, hb, e])
        omega
      obtain ⟨h5, h6⟩ := txt_eq hx hal hbl hne h2
      refine .inr ⟨h2, ?_⟩
      have h7 : ¬ (outOf l.length l).getD (a + 1) 0 > (outOf l.length l).getD (b + 1) 0 := fun h => hk (.inr ⟨h2, h⟩)
      rw [outOf_good hg _ (by omega), outOf_good hg _ (by omega)] at h7
      have h8 : l.idxOf ((a + 1 : Nat) : Int) ≠ l.idxOf ((b + 1 : Nat) : Int) := fun e => by
        have e1 := idxOf_getD (good_all hg (u := a + 1) (by omega))
        rw [e, idxOf_getD (good_all hg (u := b + 1) (by omega))] at e1
        omega
      omega
  | succ d ih =>
    intro p q hpq hq a b ha hb
    obtain ⟨c, hc, hcl⟩ := good_nat hg (q - 1) (by omega)
    have h1 := ih p (q - 1) (by omega) (by omega) a c ha hc
    have hk := hok q hq (by omega)
    unfold okN at hk
    rw [hc, hb, Int.toNat_natCast, Int.toNat_natCast] at hk
    have hbl : b < x.length := by have := hg.2 _ (getD_mem l q 0 (by omega)); omega
    have h2 : x.getD c 0 < x.getD b 0 ∨ x.getD c 0 = x.getD b 0 ∧ l.idxOf ((c + 1 : Nat) : Int) < l.idxOf ((b + 1 : Nat) : Int) := by
      by_cases h1 : x.getD c 0 < x.getD b 0
      · exact .inl h1
      · have h2 : x.getD c 0 = x.getD b 0 := by
          by_cases h3 : x.getD c 0 > x.getD b 0
          · exact absurd (.inl h3) hk
          · omega
        have hne : c ≠ b := fun e => by
          have := good_inj hg (i := q - 1) (j := q) (by omega) (by omega) (by rw [hc, hb, e])
          omega
        obtain ⟨h5, h6⟩ := txt_eq hx (by omega) hbl hne h2
        refine .inr ⟨h2, ?_⟩
        have h7 : ¬ (outOf l.length l).getD (c + 1) 0 > (outOf l.length l).getD (b + 1) 0 := fun h => hk (.inr ⟨h2, h⟩)
        rw [outOf_good hg _ (by omega), outOf_good hg _ (by omega)] at h7
        have h8 : l.idxOf ((c + 1 : Nat) : Int) ≠ l.idxOf ((b + 1 : Nat) : Int) := fun e => by
          have e1 := idxOf_getD (good_all hg (u := c + 1) (by omega))
          rw [e, idxOf_getD (good_all hg (u := b + 1) (by omega))] at e1
          omega
        omega
    rcases h1 with h1 | h1 <;> rcases h2 with h2 | h2
    · exact .inl (by omega)
    · exact .inl (by omega)
    · exact .inl (by omega)
    · exact .inr ⟨by omega, by omega⟩
theorem right_cmp {x l : List Int} (h : RightP x l) : ∀ d a b : Nat, a < x.length → b < x.length → x.length - a ≤ d → l.idxOf (a : Int) < l.idxOf (b : Int) → cmpS x a b < 0 := by
  intro d
  induction d with
  | zero => intro a b ha hb hd; omega
  | succ d ih =>
    intro a b ha hb hd hi
    have hl := h.2.1
    have hma := good_all h.1 (u := a) (by omega)
    have hmb := good_all h.1 (u := b) (by omega)
    have hbi := List.idxOf_lt_length_iff.2 hmb
    have hs := right_less h (l.idxOf (b : Int) - l.idxOf (a : Int) - 1) _ _ (by omega) hbi a b (idxOf_getD hma) (idxOf_getD hmb)
    rw [cmpS_step x a b ha hb]
    rcases hs with hs | ⟨hs, hs2⟩
    · rw [if_pos hs]; omega
    · have hne : a ≠ b := fun e => by subst e; omega
      obtain ⟨h5, h6⟩ := txt_eq h.2.2.1 ha hb hne hs
      rw [if_neg (by omega), if_neg (by omega)]
      exact ih (a + 1) (b + 1) h5 h6 (by omega) hs2
theorem perm_of_nodup {α : Type} [DecidableEq α] : ∀ (a b : List α), a.Nodup → b.Nodup → (∀ x, x ∈ a ↔ x ∈ b) → a.Perm b
  | [], b, _, _, h => by
    cases b with
    | nil => exact List.Perm.refl _
    | cons y t => have := (h y).2 (List.mem_cons_self ..); simp at this
  | x :: a, b, ha, hb, h => by
    have ha' := List.nodup_cons.1 ha
    have hx := (h x).1 (List.mem_cons_self ..)
    have h1 := List.perm_cons_erase hx
    have hb2 : (x :: b.erase x).Nodup := h1.nodup_iff.1 hb
    have hb' := List.nodup_cons.1 hb2
    refine ((perm_of_nodup a (b.erase x) ha'.2 hb'.2 fun y => ?_).cons x).trans h1.symm
    constructor
    · intro hy
      have := (h y).1 (List.mem_cons_of_mem _ hy)
      rcases List.mem_cons.1 (h1.mem_iff.1 this) with e | e
      · exact absurd (e ▸ hy) ha'.1
      · exact e
    · intro hy
      have := (h y).2 (h1.mem_iff.2 (List.mem_cons_of_mem _ hy))
      rcases List.mem_cons.1 this with e | e
      · exact absurd (e ▸ hy) hb'.1
      · exact e
theorem right_sorted {x l : List Int} (h : RightP x l) : l = sortS x := by
  obtain ⟨hg, hl, hx, hok⟩ := h
  have hback : (l.map Int.toNat).map Int.ofNat = l := by
    rw [List.map_map]
    refine (List.map_congr_left fun z hz => ?_).trans (List.map_id l)
    have := hg.2 z hz
    simp only [Function.comp, id]
    exact Int.toNat_of_nonneg this.1
  have hget : ∀ (i : Nat) (hi : i < (l.map Int.toNat).length), l.getD i 0 = (((l.map Int.toNat)[i] : Nat) : Int) := fun i hi => by
    have hi' : i < l.length := by simpa using hi
    have := hg.2 _ (getD_mem l i 0 hi')
    rw [getD_lt l i 0 hi'] at this ⊢
    rw [List.getElem_map]
    omega
  have hnd : (l.map Int.toNat).Nodup := by
    unfold List.Nodup
    rw [List.pairwise_iff_getElem]
    intro i j hi hj hij e
    have e2 := good_inj hg (i := i) (j := j) (by simpa using hi) (by simpa using hj) (by rw [hget i hi, hget j hj, e])
    omega
  have hp : (l.map Int.toNat).Perm (sortN x x.length) := by
    refine (perm_of_nodup _ _ hnd List.nodup_range fun u => ?_).trans (sortN_perm x x.length).symm
    rw [List.mem_range, List.mem_map]
    constructor
    · rintro ⟨z, hz, rfl⟩
      have := hg.2 z hz
      omega
    · intro hu
      exact ⟨(u : Int), good_all hg (by omega), Int.toNat_natCast u⟩
  have hr : Rises x (l.map Int.toNat) := by
    unfold Rises
    rw [List.pairwise_iff_getElem]
    intro i j hi hj hij
    have e1 := hget i hi
    have e2 := hget j hj
    have hi' : i < l.length := by simpa using hi
    have hj' : j < l.length := by simpa using hj
    have hu := hg.2 _ (getD_mem l i 0 hi')
    have hv := hg.2 _ (getD_mem l j 0 hj')
    generalize (l.map Int.toNat)[i] = a at e1 ⊢
    generalize (l.map Int.toNat)[j] = b at e2 ⊢
    have hia : l.idxOf (a : Int) = i := by
      have hm := good_all hg (u := a) (by omega)
      exact good_inj hg (List.idxOf_lt_length_iff.2 hm) hi' (by rw [idxOf_getD hm, e1])
    have hib : l.idxOf (b : Int) = j := by
      have hm := good_all hg (u := b) (by omega)
      exact good_inj hg (List.idxOf_lt_length_iff.2 hm) hj' (by rw [idxOf_getD hm, e2])
    exact right_cmp ⟨hg, hl, hx, hok⟩ (x.length - a) a b (by omega) (by omega) (Nat.le_refl _) (by omega)
  have := Rises.one hr (sortN_rises x x.length (Nat.le_refl _)) hp
  rw [← hback, this]
  rfl
theorem right_iff {x l : List Int} : RightP x l ↔ Txt x ∧ sortS x = l := ⟨fun h => ⟨h.2.2.1, (right_sorted h).symm⟩, fun h => h.2 ▸ sortS_right h.1⟩

theorem take_wf {l : List Int} {n : Nat} (h : ∀ x ∈ l, (Lit.int .i64 x).wf = true) : ∀ x ∈ l.take n, (Lit.int .i64 x).wf = true := fun x hx => h x (List.mem_of_mem_take hx)

theorem tm_range (a : Int) (s : Nat) (h0 : 0 < s) (h1 : s < 4611686018427387904) : 0 ≤ wrap64 (Int.tmod (IntKind.u64.wrap a) (IntKind.u64.wrap (s : Int))) ∧ wrap64 (Int.tmod (IntKind.u64.wrap a) (IntKind.u64.wrap (s : Int))) < s := by
  rw [IntKind.wrap_u64, IntKind.wrap_u64, Int.emod_eq_of_lt (a := (s : Int)) (by omega) (by omega), Int.tmod_eq_emod_of_nonneg (by omega)]
  have h2 := Int.emod_nonneg (a % 18446744073709551616) (b := (s : Int)) (by omega)
  have h3 := Int.emod_lt_of_pos (a % 18446744073709551616) (b := (s : Int)) (by omega)
  rw [w_id (by omega) (by omega)]
  exact ⟨h2, h3⟩
theorem txt_wf {x : List Int} (h : Txt x) : ∀ z ∈ x, (Lit.int .i64 z).wf = true := fun z hz => by
  have := h.rng z hz
  exact (InK.of_i64 (x := z) (by omega) (by omega)).1

/-! ### how much is alike -/
def comL : List Int → List Int → Nat
  | a :: s, b :: t => if a = b then comL s t + 1 else 0
  | _, _ => 0
theorem comL_nil (s : List Int) : comL s [] = 0 := by cases s <;> rfl
theorem com_spec {x : List Int} (hx : Txt x) : ∀ d a b : Nat, a < x.length → b < x.length → x.length - a ≤ d → a ≠ b →
    a + comL (x.drop a) (x.drop b) < x.length ∧ b + comL (x.drop a) (x.drop b) < x.length ∧ (cmpS x a b < 0 ↔ x.getD (a + comL (x.drop a) (x.drop b)) 0 < x.getD (b + comL (x.drop a) (x.drop b)) 0) := by
  intro d
  induction d with
  | zero => intro a b ha hb hd; omega
  | succ d ih =>
    intro a b ha hb hd hne
    rw [cmpS_step x a b ha hb, drop_cons x a 0 ha, drop_cons x b 0 hb]
    unfold comL
    by_cases e : x.getD a 0 = x.getD b 0
    · obtain ⟨h5, h6⟩ := txt_eq hx ha hb hne e
      obtain ⟨h1, h2, h3⟩ := ih (a + 1) (b + 1) h5 h6 (by omega) (by omega)
      rw [if_pos e, if_neg (by omega), if_neg (by omega)]
      rw [show a + (comL (x.drop (a + 1)) (x.drop (b + 1)) + 1) = a + 1 + comL (x.drop (a + 1)) (x.drop (b + 1)) by omega, show b + (comL (x.drop (a + 1)) (x.drop (b + 1)) + 1) = b + 1 + comL (x.drop (a + 1)) (x.drop (b + 1)) by omega]
      exact ⟨h1, h2, h3⟩
    · rw [if_neg e]
      refine ⟨by omega, by omega, ?_⟩
      simp only [Nat.add_zero]
      by_cases h1 : x.getD a 0 < x.getD b 0
      · rw [if_pos h1]; exact ⟨fun _ => h1, fun _ => by decide⟩
      · rw [if_neg h1, if_pos (by omega)]; exact ⟨fun h => absurd h (by decide), fun h => absurd h h1⟩
/-! ### kinds -/
def kindS (x : List Int) (i : Nat) : Bool := decide (i + 1 = x.length) || decide (cmpS x i (i + 1) < 0)
def kindsL (x : List Int) : List Bool := (List.range x.length).map (kindS x)
theorem kindsL_len (x : List Int) : (kindsL x).length = x.length := by simp [kindsL]
theorem kindsL_get (x : List Int) (i : Nat) (h : i < x.length) : (kindsL x).getD i false = kindS x i := by simp [kindsL, List.getD_eq_getElem?_getD, h]
theorem kindS_step {x : List Int} (hx : Txt x) (i : Nat) (h : i + 1 < x.length) : kindS x i = (decide (x.getD i 0 < x.getD (i + 1) 0) || decide (x.getD i 0 = x.getD (i + 1) 0) && kindS x (i + 1)) := by
  unfold kindS
  rw [decide_eq_false (show ¬ i + 1 = x.length by omega), cmpS_step x i (i + 1) (by omega) h]
  by_cases h1 : x.getD i 0 < x.getD (i + 1) 0
  · rw [if_pos h1, decide_eq_true h1]; simp
  · rw [if_neg h1, decide_eq_false h1]
    by_cases h2 : x.getD i 0 = x.getD (i + 1) 0
    · obtain ⟨_, h4⟩ := txt_eq hx (by omega) h (by omega) h2
      rw [if_neg (by omega), decide_eq_true h2, decide_eq_false (show ¬ i + 1 + 1 = x.length by omega)]; simp
    · rw [if_pos (by omega), decide_eq_false h2]; simp
theorem set_drop {α : Type} (o w : List α) (i : Nat) (d : α) (hl : o.length = w.length) (hi : i < o.length) (h : o.drop (i + 1) = w.drop (i + 1)) : (o.set i (w.getD i d)).drop i = w.drop i := by
  rw [drop_cons _ i d (by rw [List.length_set]; exact hi), drop_cons w i d (by omega), List.drop_set_of_lt (by omega), h]
  simp [List.getD_eq_getElem?_getD, hi]
theorem kinds_l {x : List Int} (hx : Txt x) (hb : x.length < 1000000) : ∀ i : Nat, i ≤ x.length → ∀ o : List Bool, o.length = x.length → o.drop i = (kindsL x).drop i → Ev (fun k => suffix_kinds.l0 k x o ((i : Int) - 1)) (kindsL x) := by
  intro i
  induction i with
  | zero =>
    intro hi o ho h
    rw [List.drop_zero, List.drop_zero] at h
    subst h
    exact Ev_now fun k => by simp only [suffix_kinds.l0]; rw [if_neg (by omega)]
  | succ i ih =>
    intro hi o ho h
    have hp := hx.pos
    have ei : ((i + 1 : Nat) : Int) - 1 = (i : Int) := by omega
    have el : wrap64 ((x.length : Int) - 1) = ((x.length - 1 : Nat) : Int) := by rw [w_id] <;> omega
    have em : wrap64 ((i : Int) - 1) = (i : Int) - 1 := by rw [w_id] <;> omega
    have hs := set_drop o (kindsL x) i false (by rw [kindsL_len, ho]) (by omega) h
    rw [kindsL_get x i (by omega)] at hs
    have hnext := ih (by omega) (o.set i (kindS x i)) (by rw [List.length_set, ho]) hs
    refine Ev_to hnext fun k => ?_
    simp only [suffix_kinds.l0]
    rw [ei, if_pos (by omega), el, em]
    by_cases e : i + 1 = x.length
    · rw [if_pos (by omega), if_pos (by omega), if_pos (by omega), Int.toNat_natCast]
      rw [show kindS x i = true by unfold kindS; rw [decide_eq_true e]; rfl]
    · rw [if_neg (by omega), if_pos (by omega), if_pos (by omega), w_succ i (by omega), if_pos (by omega), if_pos (by omega), rd_nat, rd_nat, Int.toNat_natCast]
      have hk := kindS_step hx i (by omega)
      by_cases h1 : x.getD i 0 < x.getD (i + 1) 0
      · rw [if_pos h1, if_pos (by omega)]
        rw [decide_eq_true h1] at hk
        rw [hk]; rfl
      · rw [if_neg h1]
        rw [decide_eq_false h1] at hk
        by_cases h2 : x.getD i 0 = x.getD (i + 1) 0
        · rw [if_pos h2, if_pos (by omega), if_pos (by omega)]
          rw [decide_eq_true h2] at hk
          have h3 : rdOf false o ((i + 1 : Nat) : Int) = kindS x (i + 1) := by
            unfold rdOf
            rw [Int.toNat_natCast, ← kindsL_get x (i + 1) (by omega)]
            have e3 := congrArg (fun z => z.getD 0 false) h
            simp only [List.getD_eq_getElem?_getD, List.getElem?_drop, Nat.add_zero] at e3
            simp only [List.getD_eq_getElem?_getD]
            exact e3
          rw [h3, hk]; simp
        · rw [if_neg h2, if_pos (by omega)]
          rw [decide_eq_false h2] at hk
          rw [hk]; rfl
theorem kinds {x : List Int} (hx : Txt x) (hb : x.length < 1000000) : Ev (fun k => suffix_kinds.f k x) (kindsL x) := by
  have hp := hx.pos
  have h := kinds_l hx hb x.length (Nat.le_refl _) (List.replicate x.length false) (by simp) (by rw [List.drop_of_length_le (by simp), List.drop_of_length_le (by rw [kindsL_len]; omega)])
  exact Ev_as h fun k => by
    unfold suffix_kinds.f
    rw [if_pos (by omega), if_pos (by omega), Int.toNat_natCast, w_id (x := (x.length : Int) - 1) (by omega) (by omega)]
theorem kindsK (x : List Int) (hb : x.length ≤ 65536) (hw : ∀ z ∈ x, (Lit.int .i64 z).wf = true) : Ev (fun k => suffix_Kinds.f k x) (if Txt x then (kindsL x, 0) else ([], chk x)) := by
  unfold suffix_Kinds.f
  refine Ev.bind (check x hb hw) ?_
  by_cases h : Txt x
  · simp only [if_pos ((txt_iff x).2 h), if_pos h]
    exact Ev.bind (kinds h (by omega)) (Ev.now _)
  · simp only [if_neg (fun e => h ((txt_iff x).1 e)), if_neg h]
    exact Ev.now _
/-! ### the first ones -/
def firstAt (ks : List Bool) (i : Nat) : Bool := decide (1 ≤ i) && ks.getD i false && !ks.getD (i - 1) false
def firstsOf (ks : List Bool) (m : Nat) : List Int := ((List.range m).filter (firstAt ks)).map Int.ofNat
theorem firstsOf_succ (ks : List Bool) (m : Nat) : firstsOf ks (m + 1) = firstsOf ks m ++ (if firstAt ks m = true then [(m : Int)] else []) := by
  unfold firstsOf
  rw [List.range_succ, List.filter_append, List.map_append]
  by_cases h : firstAt ks m = true
  · simp [h]
  · simp [h]
theorem firstsOf_len (ks : List Bool) (m : Nat) : (firstsOf ks m).length ≤ m := by
  unfold firstsOf
  rw [List.length_map]
  have := List.length_filter_le (firstAt ks) (List.range m)
  rwa [List.length_range] at this
theorem firsts_l (ks : List Bool) (hb : ks.length < 1000000) : ∀ d i : Nat, i + d = ks.length → Ev (fun k => suffix_Firsts.l0 k ks (firstsOf ks i) (ks.length : Int) (i : Int)) (firstsOf ks ks.length, 0) := by
  intro d
  induction d with
  | zero =>
    intro i hi
    rw [show i = ks.length by omega]
    exact Ev_now fun k => by simp only [suffix_Firsts.l0]; rw [if_neg (by omega)]
  | succ d ih =>
    intro i hi
    have h := ih (i + 1) (by omega)
    rw [firstsOf_succ] at h
    have hlen := firstsOf_len ks i
    have hr : rdOf false ks (i : Int) = ks.getD i false := rfl
    refine Ev_to h fun k => ?_
    simp only [suffix_Firsts.l0]
    rw [if_pos (by omega), w_succ i (by omega)]
    by_cases h0 : i = 0
    · subst h0
      rw [if_pos (by omega), if_neg (by unfold firstAt; simp), List.append_nil]
    · have e1 : wrap64 ((i : Int) - 1) = ((i - 1 : Nat) : Int) := by rw [w_id] <;> omega
      have hr1 : rdOf false ks ((i - 1 : Nat) : Int) = ks.getD (i - 1) false := rfl
      rw [if_neg (by omega), if_pos (by omega), if_pos (by omega), hr, e1, hr1]
      unfold firstAt
      rw [decide_eq_true (show 1 ≤ i by omega)]
      cases hk : ks.getD i false with
      | false => simp
      | true =>
        rw [if_pos rfl, if_pos (by omega), if_pos (by omega)]
        cases hk1 : ks.getD (i - 1) false with
        | true => simp
        | false => rw [if_neg (by decide), if_pos (by omega)]; simp
def firstsL (x : List Int) : List Int := firstsOf (kindsL x) x.length
theorem firsts (x : List Int) (hb : x.length ≤ 65536) (hw : ∀ z ∈ x, (Lit.int .i64 z).wf = true) : Ev (fun k => suffix_Firsts.f k x) (if Txt x then (firstsL x, 0) else ([], chk x)) := by
  unfold suffix_Firsts.f
  refine Ev.bind (kindsK x hb hw) ?_
  by_cases h : Txt x
  · simp only [if_pos h, if_true]
    have := firsts_l (kindsL x) (by rw [kindsL_len]; omega) (kindsL x).length 0 (by omega)
    unfold firstsL
    rw [kindsL_len] at this ⊢
    exact this
  · simp only [if_neg h, if_neg (fun e => h ((txt_iff x).1 e))]
    exact Ev.now _

theorem place_l (x ls : List Int) (hb : ls.length < 1000000) : ∀ d i : Nat, i + d = ls.length → Ev (fun k => suffix_place.l0 k x ls (ls.length : Int) (i : Int)) (if ∀ z ∈ ls.drop i, 0 ≤ z ∧ z < (x.length : Int) then 0 else 10) := by
  intro d
  induction d with
  | zero =>
    intro i hi
    rw [List.drop_of_length_le (by omega), if_pos (by simp)]
    exact Ev_now fun k => by simp only [suffix_place.l0]; rw [if_neg (by omega)]
  | succ d ih =>
    intro i hi
    rw [drop_cons ls i 0 (by omega)]
    by_cases h1 : ls.getD i 0 < 0
    · rw [if_neg (fun h => by have := h _ (List.mem_cons_self ..); omega)]
      exact Ev_now fun k => by simp only [suffix_place.l0]; rw [if_pos (by omega), if_pos (by omega), if_pos (by omega), rd_nat, if_pos h1]
    · by_cases h2 : (x.length : Int) ≤ ls.getD i 0
      · rw [if_neg (fun h => by have := h _ (List.mem_cons_self ..); omega)]
        exact Ev_now fun k => by simp only [suffix_place.l0]; rw [if_pos (by omega), if_pos (by omega), if_pos (by omega), rd_nat, if_neg h1, if_pos h2]
      · have h := ih (i + 1) (by omega)
        have e : (∀ z ∈ ls.getD i 0 :: ls.drop (i + 1), 0 ≤ z ∧ z < (x.length : Int)) ↔ ∀ z ∈ ls.drop (i + 1), 0 ≤ z ∧ z < (x.length : Int) := by
          constructor
          · exact fun h z hz => h z (List.mem_cons_of_mem _ hz)
          · intro h z hz
            rcases List.mem_cons.1 hz with rfl | hz
            · omega
            · exact h z hz
        simp only [e]
        exact Ev_to h fun k => by simp only [suffix_place.l0]; rw [if_pos (by omega), if_pos (by omega), if_pos (by omega), rd_nat, if_neg h1, if_neg (by omega), w_succ i (by omega)]
def inAll (x ls : List Int) : Prop := ∀ z ∈ ls, 0 ≤ z ∧ z < (x.length : Int)
instance (x ls : List Int) : Decidable (inAll x ls) := by unfold inAll; infer_instance
theorem place (x ls : List Int) (hb : x.length ≤ 65536) (hbl : ls.length < 1000000) (hw : ∀ z ∈ x, (Lit.int .i64 z).wf = true) : Ev (fun k => suffix_place.f k x ls) (if chk x = 0 then (if inAll x ls then 0 else 10) else chk x) := by
  unfold suffix_place.f
  refine Ev.bind (check x hb hw) ?_
  by_cases h : chk x = 0
  · simp only [if_pos h]
    exact place_l x ls hbl ls.length 0 (by omega)
  · simp only [if_neg h]; exact Ev.now _

/-! ### a number in a rising row -/
theorem lessI (a b : Int) : cmp_Less_int.f a b = some (decide (a < b)) := by
  unfold cmp_Less_int.f cmp_isNaN_int.f
  simp
theorem bin_l {f : List Int} (hf : f.Pairwise (· < ·)) (v : Int) (hb : f.length < 1000000) : ∀ d lo hi : Nat, hi - lo ≤ d → lo ≤ hi → hi ≤ f.length → (∀ j, j < lo → f.getD j 0 < v) → (∀ j, hi ≤ j → j < f.length → v ≤ f.getD j 0) →
    ∃ p : Int, Ev (fun k => slices_BinarySearch_int_int.l0 k f v (f.length : Int) (lo : Int) (hi : Int)) (p, decide (v ∈ f)) ∧ (v ∈ f → p = (f.idxOf v : Int)) := by
  intro d
  have hfin : ∀ lo : Nat, lo ≤ f.length → (∀ j, j < lo → f.getD j 0 < v) → (∀ j, lo ≤ j → j < f.length → v ≤ f.getD j 0) → ∀ hi : Nat, hi = lo →
      ∃ p : Int, Ev (fun k => slices_BinarySearch_int_int.l0 k f v (f.length : Int) (lo : Int) (hi : Int)) (p, decide (v ∈ f)) ∧ (v ∈ f → p = (f.idxOf v : Int)) := by
    intro lo hlo h1 h2 hi he
    subst he
    have hidx : v ∈ f → f.idxOf v = hi := fun hm => by
      have h3 := List.idxOf_lt_length_iff.2 hm
      have h4 := idxOf_getD hm
      rcases Nat.lt_trichotomy (f.idxOf v) hi with h5 | h5 | h5
      · have := h1 _ h5; omega
      · exact h5
      · have h6 := h2 hi (Nat.le_refl _) (by omega)
        have h7 := List.pairwise_iff_getElem.1 hf hi _ (by omega) h3 h5
        rw [getD_lt _ _ _ h3] at h4
        rw [getD_lt _ _ _ (by omega)] at h6
        omega
    refine ⟨hi, Ev_now fun k => ?_, fun hm => by rw [hidx hm]⟩
    simp only [slices_BinarySearch_int_int.l0]
    rw [if_neg (by omega)]
    by_cases h3 : hi < f.length
    · rw [if_pos (by omega), if_pos (by omega), if_pos (by omega), rd_nat]
      by_cases h4 : f.getD hi 0 = v
      · rw [if_pos h4, decide_eq_true (by rw [← h4]; exact getD_mem f hi 0 h3)]
      · rw [if_neg h4, decide_eq_false (fun hm => h4 (by rw [← hidx hm]; exact idxOf_getD hm))]
        unfold slices_isNaN_int.f
        simp
    · rw [if_neg (by omega), decide_eq_false (fun hm => h3 (by rw [← hidx hm]; exact List.idxOf_lt_length_iff.2 hm))]
  induction d with
  | zero => intro lo hi hd hle hl h1 h2; exact hfin lo (by omega) h1 (fun j hj hj2 => h2 j (by omega) hj2) hi (by omega)
  | succ d ih =>
    intro lo hi hd hle hl h1 h2
    by_cases he : hi = lo
    · exact hfin lo (by omega) h1 (fun j hj hj2 => h2 j (by omega) hj2) hi he
    · have em : wrap64 ((IntKind.u64.wrap (wrap64 ((lo : Int) + hi))) / 2) = (((lo + hi) / 2 : Nat) : Int) := by
        rw [w_id (x := (lo : Int) + hi) (by omega) (by omega), IntKind.wrap_u64, w_id] <;> omega
      generalize hm : (lo + hi) / 2 = m at em
      have hml : lo ≤ m := by omega
      have hmh : m < hi := by omega
      by_cases h3 : f.getD m 0 < v
      · obtain ⟨p, hp, hp2⟩ := ih (m + 1) hi (by omega) (by omega) hl (fun j hj => by
          by_cases e : j = m
          · rw [e]; exact h3
          · have := List.pairwise_iff_getElem.1 hf j m (by omega) (by omega) (by omega)
            rw [getD_lt _ _ _ (by omega)] at h3 ⊢
            omega) h2
        refine ⟨p, Ev_to hp fun k => ?_, hp2⟩
        simp only [slices_BinarySearch_int_int.l0]
        rw [if_pos (by omega), em, if_pos (by omega), if_pos (by omega), rd_nat, lessI, Option.bind_some, decide_eq_true h3, if_pos rfl, w_succ m (by omega)]
      · obtain ⟨p, hp, hp2⟩ := ih lo m (by omega) (by omega) (by omega) h1 (fun j hj hj2 => by
          by_cases e : j = m
          · rw [e]; omega
          · have := List.pairwise_iff_getElem.1 hf m j (by omega) (by omega) (by omega)
            rw [getD_lt _ _ _ (by omega)] at h3 ⊢
            omega)
        refine ⟨p, Ev_to hp fun k => ?_, hp2⟩
        simp only [slices_BinarySearch_int_int.l0]
        rw [if_pos (by omega), em, if_pos (by omega), if_pos (by omega), rd_nat, lessI, Option.bind_some, decide_eq_false h3, if_neg (by decide)]
theorem bin {f : List Int} (hf : f.Pairwise (· < ·)) (v : Int) (hb : f.length < 1000000) : ∃ p : Int, Ev (fun k => slices_BinarySearch_int_int.f k f v) (p, decide (v ∈ f)) ∧ (v ∈ f → p = (f.idxOf v : Int)) :=
  bin_l hf v hb f.length 0 f.length (by omega) (by omega) (Nat.le_refl _) (fun j hj => absurd hj (by omega)) (fun j hj hj2 => absurd hj2 (by omega))
theorem firstsL_lt (x : List Int) : (firstsL x).Pairwise (· < ·) := by
  unfold firstsL firstsOf
  rw [List.pairwise_map]
  exact (List.pairwise_lt_range.filter _).imp fun h => Int.ofNat_lt.2 h
theorem firstsL_mem {x : List Int} {z : Int} (h : z ∈ firstsL x) : ∃ a : Nat, z = (a : Int) ∧ a < x.length := by
  unfold firstsL firstsOf at h
  obtain ⟨a, ha, rfl⟩ := List.mem_map.1 h
  exact ⟨a, rfl, List.mem_range.1 (List.mem_filter.1 ha).1⟩
theorem firstsL_len (x : List Int) : (firstsL x).length ≤ x.length := firstsOf_len _ _
/-- The piece of a first S. -/
def pieceL (x : List Int) (at_ : Nat) : List Int :=
  if (firstsL x).idxOf (at_ : Int) + 1 = (firstsL x).length then x.drop at_ else (x.take (((firstsL x).getD ((firstsL x).idxOf (at_ : Int) + 1) 0).toNat + 1)).drop at_
theorem clone (l : List Int) (hw : ∀ z ∈ l, (Lit.int .i64 z).wf = true) (hb : l.length < 17592186044416) : slices_Clone_int_int.f l = some l := by
  unfold slices_Clone_int_int.f
  rw [if_pos (inKs_true hw), if_pos hb]
theorem piece {x : List Int} (hx : Txt x) (hb : x.length ≤ 65536) (a : Nat) (ha : a < x.length) : Ev (fun k => suffix_Piece.f k x (a : Int)) (if (a : Int) ∈ firstsL x then (pieceL x a, 0) else ([], 7)) := by
  have hw := txt_wf hx
  unfold suffix_Piece.f
  refine Ev.bind (place x [(a : Int)] hb (by rw [List.length_singleton]; omega) hw) ?_
  rw [if_pos ((txt_iff x).2 hx), if_pos (show inAll x [(a : Int)] from fun z hz => by rw [List.mem_singleton] at hz; omega)]
  simp only [if_true]
  refine Ev.bind (firsts x hb hw) ?_
  rw [if_pos hx]
  have hfl := firstsL_len x
  obtain ⟨p, hp, hp2⟩ := bin (firstsL_lt x) (a : Int) (by omega)
  refine Ev.bind hp ?_
  by_cases hm : (a : Int) ∈ firstsL x
  · have hi := List.idxOf_lt_length_iff.2 hm
    rw [hp2 hm, decide_eq_true hm, if_pos hm]
    have el : wrap64 (((firstsL x).length : Int) - 1) = (((firstsL x).length - 1 : Nat) : Int) := by rw [w_id] <;> omega
    simp only [if_true, el]
    unfold pieceL
    have hia := idxOf_getD hm
    generalize (firstsL x).idxOf (a : Int) = i at hi hia
    by_cases h1 : i + 1 = (firstsL x).length
    · rw [if_pos h1]
      refine Ev_eq fun k => ?_
      rw [if_pos (by omega), if_pos (by omega), if_pos (by omega), Int.toNat_natCast, clone _ (fun z hz => hw z (List.mem_of_mem_drop hz)) (by rw [List.length_drop]; omega), Option.bind_some]
    · rw [if_neg h1]
      obtain ⟨b, hb1, hb2⟩ := firstsL_mem (getD_mem (firstsL x) (i + 1) 0 (by omega))
      have hab : a < b := by
        have h5 := List.pairwise_iff_getElem.1 (firstsL_lt x) i (i + 1) hi (by omega) (by omega)
        rw [getD_lt _ _ _ (by omega)] at hia hb1
        omega
      rw [hb1, Int.toNat_natCast]
      refine Ev_eq fun k => ?_
      rw [if_neg (by omega), w_succ i (by omega), if_pos (by omega), if_pos (by omega), if_pos (by omega), rd_nat, hb1, w_succ b (by omega), if_pos (by omega), if_pos (by omega), Int.toNat_natCast, Int.toNat_natCast, clone _ (fun z hz => hw z (List.mem_of_mem_take (List.mem_of_mem_drop hz))) (by rw [List.length_drop, List.length_take]; omega), Option.bind_some]
  · rw [decide_eq_false hm, if_neg hm]
    simp only [if_neg (show ¬ false = true by decide)]
    exact Ev.now _

/-! ### the law -/

/-! ### the document's order -/
abbrev toI (o : List Nat) : List Int := o.map Int.ofNat
theorem insS_len (x : List Int) (v : Nat) (o : List Nat) : (insS x v o).length = o.length + 1 := by rw [(insS_perm x v o).length_eq]; rfl
/-! ### how much is alike -/
theorem commonP_l (x : List Int) (a b : Nat) (hb : x.length < 1000000) (ha : a < x.length) (hbl : b < x.length) : ∀ d n : Nat, max a b + n + d = x.length → Ev (fun k => suffix_common.l0 k x (a : Int) (b : Int) (n : Int)) ((n + comL (x.drop (a + n)) (x.drop (b + n)) : Nat) : Int) := by
  intro d
  have em : ∀ n : Nat, n ≤ x.length → wrap64 ((mx (a : Int) (b : Int)) + n) = ((max a b + n : Nat) : Int) := fun n hn => by
    unfold mx
    split <;> rw [w_id] <;> omega
  induction d with
  | zero =>
    intro n hn
    have hz : comL (x.drop (a + n)) (x.drop (b + n)) = 0 := by
      rcases Nat.le_total a b with h | h
      · rw [List.drop_of_length_le (i := b + n) (by omega), comL_nil]
      · rw [List.drop_of_length_le (i := a + n) (by omega)]; rfl
    rw [hz]
    exact Ev_now fun k => by
      simp only [suffix_common.l0]
      rw [em n (by omega), if_neg (by omega)]; rfl
  | succ d ih =>
    intro n hn
    have ea : wrap64 ((a : Int) + n) = ((a + n : Nat) : Int) := by rw [w_id] <;> omega
    have eb : wrap64 ((b : Int) + n) = ((b + n : Nat) : Int) := by rw [w_id] <;> omega
    rw [drop_cons x (a + n) 0 (by omega), drop_cons x (b + n) 0 (by omega)]
    unfold comL
    by_cases e : x.getD (a + n) 0 = x.getD (b + n) 0
    · rw [if_pos e]
      have := ih (n + 1) (by omega)
      rw [show n + 1 + comL (x.drop (a + (n + 1))) (x.drop (b + (n + 1))) = n + (comL (x.drop (a + n + 1)) (x.drop (b + n + 1)) + 1) by rw [Nat.add_assoc a n 1, Nat.add_assoc b n 1]; omega] at this
      exact Ev_to this fun k => by
        simp only [suffix_common.l0]
        rw [em n (by omega), if_pos (by omega), ea, eb, if_pos (by omega), if_pos (by omega), if_pos (by omega), if_pos (by omega), if_pos (by rw [rd_nat, rd_nat]; exact e), w_succ n (by omega)]
    · rw [if_neg e]
      exact Ev_now fun k => by
        simp only [suffix_common.l0]
        rw [em n (by omega), if_pos (by omega), ea, eb, if_pos (by omega), if_pos (by omega), if_pos (by omega), if_pos (by omega), if_neg (by rw [rd_nat, rd_nat]; exact e)]; rfl
theorem commonP (x : List Int) (a b : Nat) (hb : x.length < 1000000) (ha : a < x.length) (hbl : b < x.length) : Ev (fun k => suffix_common.f k x (a : Int) (b : Int)) (comL (x.drop a) (x.drop b) : Int) := by
  have := commonP_l x a b hb ha hbl (x.length - max a b) 0 (by omega)
  rw [Nat.zero_add, Nat.add_zero, Nat.add_zero] at this
  exact Ev_as this fun k => rfl
/-- Of each one and the one ahead. -/
def commonsL (x l : List Int) : List Int := (List.range l.length).map fun (i : Nat) => if i = 0 then 0 else (comL (x.drop (l.getD (i - 1) 0).toNat) (x.drop (l.getD i 0).toNat) : Int)
theorem commonsL_len (x l : List Int) : (commonsL x l).length = l.length := by simp [commonsL]
theorem commonsL_get (x l : List Int) (i : Nat) (h : i < l.length) : (commonsL x l).getD i 0 = if i = 0 then 0 else (comL (x.drop (l.getD (i - 1) 0).toNat) (x.drop (l.getD i 0).toNat) : Int) := by
  simp [commonsL, List.getD_eq_getElem?_getD, h]
theorem commons_l {x l : List Int} (hg : Good l) (hl : l.length = x.length) (hb : x.length ≤ 65536) : ∀ d i : Nat, i + d = l.length → 1 ≤ i → ∀ o : List Int, o.length = l.length → o.take i = (commonsL x l).take i → Ev (fun k => suffix_Commons.l0 k x l o (i : Int)) (commonsL x l, 0) := by
  intro d
  induction d with
  | zero =>
    intro i hi h1 o ho h
    rw [List.take_of_length_le (by omega), List.take_of_length_le (by rw [commonsL_len]; omega)] at h
    rw [h]
    exact Ev_now fun k => by simp only [suffix_Commons.l0]; rw [if_neg (by omega)]
  | succ d ih =>
    intro i hi h1 o ho h
    obtain ⟨a, ha, hal⟩ := good_nat hg (i - 1) (by omega)
    obtain ⟨b, hbb, hbl⟩ := good_nat hg i (by omega)
    have hw1 : wrap64 ((i : Int) - 1) = ((i - 1 : Nat) : Int) := by rw [w_id] <;> omega
    have hc := commonP x a b (by omega) (by omega) (by omega)
    have hget := commonsL_get x l i (by omega)
    rw [if_neg (by omega), ha, hbb, Int.toNat_natCast, Int.toNat_natCast] at hget
    have hn := ih (i + 1) (by omega) (by omega) (o.set i (comL (x.drop a) (x.drop b) : Int)) (by rw [List.length_set, ho]) (by
      rw [take_succ_getD _ i 0 (by rw [List.length_set]; omega), take_succ_getD _ i 0 (by rw [commonsL_len]; omega), List.take_set_of_le (Nat.le_refl _), h, hget]
      simp [List.getD_eq_getElem?_getD, show i < o.length by omega])
    refine Ev.step (f := ?fc) ?hc ?ec
    case hc =>
      intro k
      simp only [suffix_Commons.l0]
      rw [if_pos (by omega), hw1, if_pos (by omega), if_pos (by omega), if_pos (by omega), rd_nat, rd_nat, ha, hbb]
    case ec =>
      refine Ev.bind hc ?_
      simp only [if_pos (show (i : Int) < (o.length : Int) by omega), w_succ i (show i < 4611686018427387904 by omega), Int.toNat_natCast]
      exact hn
theorem commons (x l : List Int) (hb : x.length ≤ 65536) (hbl : l.length ≤ 65536) (hw : ∀ z ∈ x, (Lit.int .i64 z).wf = true) : Ev (fun k => suffix_Commons.f k x l) (if chk x = 0 then (if RightP x l then (commonsL x l, 0) else ([], 3)) else ([], chk x)) := by
  unfold suffix_Commons.f
  refine Ev.bind (check x hb hw) ?_
  by_cases hc : chk x = 0
  · simp only [if_pos hc]
    refine Ev.bind (right x l hb hbl hw) ?_
    by_cases hr : RightP x l
    · rw [decide_eq_true hr, if_pos hr]
      simp only [if_true, if_pos (show (0 : Int) ≤ (l.length : Int) by omega), Int.toNat_natCast, if_pos (show l.length ≤ 35184372088832 by omega)]
      have hp := hr.2.2.1.pos
      have hl := hr.2.1
      refine commons_l hr.1 hl hb (l.length - 1) 1 (by omega) (by omega) _ (by simp) ?_
      rw [take_succ_getD _ 0 0 (by simp; omega), take_succ_getD _ 0 0 (by rw [commonsL_len]; omega), commonsL_get x l 0 (by omega)]
      simp [List.getD_eq_getElem?_getD, show 0 < l.length by omega]
    · rw [decide_eq_false hr, if_neg hr]
      simp only [if_neg (show ¬ false = true by decide)]
      exact Ev.now _
  · simp only [if_neg hc]
    exact Ev.now _
theorem less2 {x : List Int} (hx : Txt x) (hb : x.length ≤ 65536) (a b : Nat) (ha : a < x.length) (hbl : b < x.length) : Ev (fun k => suffix_Less.f k x (a : Int) (b : Int)) (decide (cmpS x a b < 0), 0) := by
  have hw := txt_wf hx
  unfold suffix_Less.f
  refine Ev.bind (place x [(a : Int), (b : Int)] hb (by simp) hw) ?_
  rw [if_pos ((txt_iff x).2 hx), if_pos (show inAll x [(a : Int), (b : Int)] from fun z hz => by
    rcases List.mem_cons.1 hz with rfl | hz
    · omega
    · rw [List.mem_singleton] at hz; omega)]
  simp only [if_true]
  exact Ev.bind (order x (by omega) a b (by omega) (by omega)) (Ev.now _)
theorem common2 {x : List Int} (hx : Txt x) (hb : x.length ≤ 65536) (a b : Nat) (ha : a < x.length) (hbl : b < x.length) : Ev (fun k => suffix_Common.f k x (a : Int) (b : Int)) ((comL (x.drop a) (x.drop b) : Int), 0) := by
  have hw := txt_wf hx
  unfold suffix_Common.f
  refine Ev.bind (place x [(a : Int), (b : Int)] hb (by simp) hw) ?_
  rw [if_pos ((txt_iff x).2 hx), if_pos (show inAll x [(a : Int), (b : Int)] from fun z hz => by
    rcases List.mem_cons.1 hz with rfl | hz
    · omega
    · rw [List.mem_singleton] at hz; omega)]
  simp only [if_true]
  exact Ev.bind (commonP x a b (by omega) ha hbl) (Ev.now _)
theorem sortS_first {x : List Int} (hx : Txt x) : (sortS x).getD 0 0 = ((x.length - 1 : Nat) : Int) := by
  have hp := hx.pos
  have hg := sortS_good x
  have hr := sortS_right hx
  have hlen := sortS_len x
  have hm := good_all hg (u := x.length - 1) (by omega)
  refine Classical.byContradiction fun hn => ?_
  have hi := idxOf_getD hm
  have hlt := List.idxOf_lt_length_iff.2 hm
  have h0 : (sortS x).idxOf ((x.length - 1 : Nat) : Int) ≠ 0 := fun e => by rw [e] at hi; exact hn hi
  obtain ⟨a, ha, hal⟩ := good_nat hg 0 (by omega)
  have hne : a ≠ x.length - 1 := fun e => by rw [e] at ha; exact hn ha
  have hia : (sortS x).idxOf (a : Int) = 0 := by
    have hma := good_all hg (u := a) hal
    exact good_inj hg (List.idxOf_lt_length_iff.2 hma) (by omega) (by rw [idxOf_getD hma, ha])
  have hc := right_cmp hr (x.length - a) a (x.length - 1) (by omega) (by omega) (Nat.le_refl _) (by omega)
  rw [cmpS_step x a (x.length - 1) (by omega) (by omega)] at hc
  have e1 := (hx.last (x.length - 1) (by omega)).2 (by omega)
  have e2 := hx.rng _ (getD_mem x a 0 (by omega))
  have e3 : x.getD a 0 ≠ 0 := fun e => by have := (hx.last a (by omega)).1 e; omega
  rw [if_neg (by omega), if_pos (by omega)] at hc
  omega
theorem swap_eq {l : List Int} (hg : Good l) (a b : Nat) (ha : a < l.length) (hb : b < l.length) : (l.set a (l.getD b 0)).set b (l.getD a 0) = l ↔ a = b := by
  constructor
  · intro h
    have h2 := congrArg (fun z => z.getD b 0) h
    simp only [List.getD_eq_getElem?_getD, List.getElem?_set, List.length_set, hb, if_true, Option.getD_some] at h2
    refine good_inj hg ha hb ?_
    simp only [List.getD_eq_getElem?_getD]
    exact h2
  · rintro rfl
    refine List.ext_getElem (by simp) fun i h1 h2 => ?_
    simp only [List.getElem_set]
    by_cases e : a = i
    · subst e
      rw [if_pos rfl, getD_lt _ _ _ ha]
    · rw [if_neg e, if_neg e]

theorem any_drop {l : List Int} (i : Nat) (hi : i < l.length) : (l.drop i).any badCode = (badCode (l.getD i 0) || (l.drop (i + 1)).any badCode) := by
  rw [drop_cons l i 0 hi, List.any_cons]
theorem bad_iff {c : Int} : badCode c = true ↔ c < 0 ∨ 65536 ≤ c := by unfold badCode; simp
def chk2 (l : List Int) : Int := if Txt l then 0 else 3
theorem refCheck_l1 {l : List Int} (hb : l.length ≤ 65536) (hr : ∀ x ∈ l, 0 ≤ x ∧ x < 65536) : ∀ d i : Nat, i + d = l.length → (∀ j, j < i → (l.getD j 0 = 0 ↔ j + 1 = l.length)) → Ev (fun k => incipitref15_Check.l1 k l (i : Int)) (chk2 l) := by
  intro d
  induction d with
  | zero =>
    intro i hi h
    refine Ev_now fun k => ?_
    simp only [incipitref15_Check.l1]
    rw [if_neg (by omega)]
    unfold chk2
    by_cases h0 : l.length = 0
    · rw [if_pos (by omega), if_neg (fun hT => by have := hT.pos; omega)]
    · rw [if_neg (by omega), if_pos ⟨hr, fun j hj => h j (by omega), by omega⟩]
  | succ d ih =>
    intro i hi h
    have el : wrap64 ((l.length : Int) - 1) = ((l.length - 1 : Nat) : Int) := by rw [w_id] <;> omega
    have e1 : ((i : Int) == ((l.length - 1 : Nat) : Int)) = decide (i + 1 = l.length) := by
      by_cases e : i + 1 = l.length
      · rw [decide_eq_true e]; simp; omega
      · rw [decide_eq_false e]; simp; omega
    by_cases e : l.getD i 0 = 0 ↔ i + 1 = l.length
    · refine Ev_to (ih (i + 1) (by omega) fun j hj => ?_) fun k => ?_
      · by_cases e2 : j = i
        · rw [e2]; exact e
        · exact h j (by omega)
      · simp only [incipitref15_Check.l1]
        rw [if_pos (by omega), if_pos (by omega), el, e1, rd_nat, if_neg ?_, w_succ i (by omega)]
        rw [show ((l.getD i 0 == 0) = decide (i + 1 = l.length)) from by
          by_cases e3 : l.getD i 0 = 0
          · rw [decide_eq_true (e.1 e3), e3]; rfl
          · rw [decide_eq_false (fun h => e3 (e.2 h))]; simpa using e3]
        simp
    · refine Ev_now fun k => ?_
      simp only [incipitref15_Check.l1]
      rw [if_pos (by omega), if_pos (by omega), el, e1, rd_nat, if_pos ?_]
      · unfold chk2
        rw [if_neg (fun hT => e (hT.last i (by omega)))]
      · by_cases e3 : l.getD i 0 = 0
        · by_cases e4 : i + 1 = l.length
          · exact absurd ⟨fun _ => e4, fun _ => e3⟩ e
          · rw [e3, decide_eq_false e4]; rfl
        · by_cases e4 : i + 1 = l.length
          · rw [decide_eq_true e4]
            have : (l.getD i 0 == 0) = false := by simpa using e3
            rw [this]; rfl
          · exact absurd ⟨fun h => absurd h e3, fun h => absurd h e4⟩ e
theorem chk_eq (l : List Int) : chk l = if l.any badCode = true then 10 else chk2 l := by
  by_cases h : l.any badCode = true
  · rw [if_pos h]; unfold chk; rw [if_pos h]
  · rw [if_neg h]
    unfold chk2
    by_cases hT : Txt l
    · rw [if_pos hT, (txt_iff l).2 hT]
    · rw [if_neg hT]
      have hn : chk l ≠ 0 := fun e => hT ((txt_iff l).1 e)
      unfold chk at hn ⊢
      rw [if_neg h] at hn ⊢
      by_cases h3 : (if (0 : Int) ∈ l then (l.idxOf 0 : Int) else -1) = (l.length : Int) - 1
      · rw [if_pos h3] at hn ⊢
        by_cases h0 : l.length = 0
        · rw [if_pos h0]
        · rw [if_neg h0] at hn; exact absurd rfl hn
      · rw [if_neg h3]
theorem rng_of {l : List Int} (h : ¬ l.any badCode = true) : ∀ x ∈ l, 0 ≤ x ∧ x < 65536 := fun x hx => Classical.byContradiction fun hn => h (List.any_eq_true.2 ⟨x, hx, by unfold badCode; simp; omega⟩)
theorem refCheck_l0 {l : List Int} (hb : l.length ≤ 65536) : ∀ d i : Nat, i + d = l.length → (l.take i).any badCode = false → Ev (fun k => incipitref15_Check.l0 k l (i : Int)) (chk l) := by
  intro d
  induction d with
  | zero =>
    intro i hi h
    rw [List.take_of_length_le (by omega)] at h
    rw [chk_eq, if_neg (by rw [h]; decide)]
    exact Ev_to (refCheck_l1 hb (rng_of (by rw [h]; decide)) l.length 0 (by omega) (fun j hj => absurd hj (by omega))) fun k => by
      simp only [incipitref15_Check.l0]
      rw [if_neg (by omega)]; rfl
  | succ d ih =>
    intro i hi h
    have hbad : badCode (l.getD i 0) = true → chk l = 10 := fun hbd => by
      rw [chk_eq, if_pos (List.any_eq_true.2 ⟨_, getD_mem l i 0 (by omega), hbd⟩)]
    by_cases h1 : l.getD i 0 < 0
    · rw [hbad (bad_iff.2 (.inl h1))]
      exact Ev_now fun k => by
        simp only [incipitref15_Check.l0]
        rw [if_pos (by omega), if_pos (by omega), rd_nat, if_pos h1]
    · by_cases h2 : l.getD i 0 > 65535
      · rw [hbad (bad_iff.2 (.inr (by omega)))]
        exact Ev_now fun k => by
          simp only [incipitref15_Check.l0]
          rw [if_pos (by omega), if_pos (by omega), rd_nat, if_neg h1, if_pos h2]
      · refine Ev_to (ih (i + 1) (by omega) ?_) fun k => ?_
        · rw [take_succ_getD l i 0 (by omega), List.any_append, h, List.any_cons, List.any_nil, Bool.or_false, Bool.false_or]
          exact Bool.eq_false_iff.2 fun h => by have := bad_iff.1 h; omega
        · simp only [incipitref15_Check.l0]
          rw [if_pos (by omega), if_pos (by omega), rd_nat, if_neg h1, if_neg h2, w_succ i (by omega)]
theorem refCheck (l : List Int) (hb : l.length ≤ 65536) : Ev (fun k => incipitref15_Check.f k l) (chk l) :=
  Ev_as (refCheck_l0 hb l.length 0 (by omega) rfl) fun k => by unfold incipitref15_Check.f; rw [if_neg (by omega)]; rfl
theorem inAll2 (x : List Int) (a b : Int) : inAll x [a, b] ↔ (0 ≤ a ∧ a < (x.length : Int)) ∧ 0 ≤ b ∧ b < (x.length : Int) := by
  unfold inAll
  simp
theorem inAll1 (x : List Int) (a : Int) : inAll x [a] ↔ 0 ≤ a ∧ a < (x.length : Int) := by
  unfold inAll
  simp
theorem lessE (x : List Int) (a b : Int) (hb : x.length ≤ 65536) (hw : ∀ z ∈ x, (Lit.int .i64 z).wf = true) : ∃ t, Ev (fun k => suffix_Less.f k x a b) (t, if chk x = 0 then (if inAll x [a, b] then 0 else 10) else chk x) := by
  by_cases hc : chk x = 0
  · rw [if_pos hc]
    by_cases hi : inAll x [a, b]
    · rw [if_pos hi]
      obtain ⟨⟨h1, h2⟩, h3, h4⟩ := (inAll2 x a b).1 hi
      obtain ⟨a, rfl⟩ := Int.eq_ofNat_of_zero_le h1
      obtain ⟨b, rfl⟩ := Int.eq_ofNat_of_zero_le h3
      exact ⟨_, less2 ((txt_iff x).1 hc) hb a b (by omega) (by omega)⟩
    · rw [if_neg hi]
      refine ⟨false, ?_⟩
      unfold suffix_Less.f
      refine Ev.bind (place x [a, b] hb (by simp) hw) ?_
      rw [if_pos hc, if_neg hi]
      exact Ev.now _
  · rw [if_neg hc]
    refine ⟨false, ?_⟩
    unfold suffix_Less.f
    refine Ev.bind (place x [a, b] hb (by simp) hw) ?_
    rw [if_neg hc]
    simp only [if_neg hc]
    exact Ev.now _
theorem commonE (x : List Int) (a b : Int) (hb : x.length ≤ 65536) (hw : ∀ z ∈ x, (Lit.int .i64 z).wf = true) : ∃ t, Ev (fun k => suffix_Common.f k x a b) (t, if chk x = 0 then (if inAll x [a, b] then 0 else 10) else chk x) := by
  by_cases hc : chk x = 0
  · rw [if_pos hc]
    by_cases hi : inAll x [a, b]
    · rw [if_pos hi]
      obtain ⟨⟨h1, h2⟩, h3, h4⟩ := (inAll2 x a b).1 hi
      obtain ⟨a, rfl⟩ := Int.eq_ofNat_of_zero_le h1
      obtain ⟨b, rfl⟩ := Int.eq_ofNat_of_zero_le h3
      exact ⟨_, common2 ((txt_iff x).1 hc) hb a b (by omega) (by omega)⟩
    · rw [if_neg hi]
      refine ⟨0, ?_⟩
      unfold suffix_Common.f
      refine Ev.bind (place x [a, b] hb (by simp) hw) ?_
      rw [if_pos hc, if_neg hi]
      exact Ev.now _
  · rw [if_neg hc]
    refine ⟨0, ?_⟩
    unfold suffix_Common.f
    refine Ev.bind (place x [a, b] hb (by simp) hw) ?_
    rw [if_neg hc]
    simp only [if_neg hc]
    exact Ev.now _
theorem pieceE (x : List Int) (a : Int) (hb : x.length ≤ 65536) (hw : ∀ z ∈ x, (Lit.int .i64 z).wf = true) : ∃ (t : List Int) (e : Int), Ev (fun k => suffix_Piece.f k x a) (t, e) ∧ (chk x ≠ 0 → e = chk x) ∧ (chk x = 0 → ¬ inAll x [a] → e = 10) := by
  by_cases hc : chk x = 0
  · by_cases hi : inAll x [a]
    · obtain ⟨h1, h2⟩ := (inAll1 x a).1 hi
      obtain ⟨a, rfl⟩ := Int.eq_ofNat_of_zero_le h1
      exact ⟨_, _, piece ((txt_iff x).1 hc) hb a (by omega), fun h => absurd hc h, fun _ h => absurd hi h⟩
    · refine ⟨[], 10, ?_, fun h => absurd hc h, fun _ _ => rfl⟩
      unfold suffix_Piece.f
      refine Ev.bind (place x [a] hb (by simp) hw) ?_
      rw [if_pos hc, if_neg hi]
      exact Ev.now _
  · refine ⟨[], chk x, ?_, fun _ => rfl, fun h => absurd h hc⟩
    unfold suffix_Piece.f
    refine Ev.bind (place x [a] hb (by simp) hw) ?_
    rw [if_neg hc]
    simp only [if_neg hc]
    exact Ev.now _
theorem SuffixChecks : incipitlaw15_SuffixChecks.Pure := by
  intro l0 a b _ _ hw0 _ _
  have hx : (l0.take 60).length ≤ 60 := List.length_take_le _ _
  have hw := take_wf (n := 60) hw0
  unfold incipitlaw15_SuffixChecks.f
  simp only [raw, Option.bind_some]
  generalize l0.take 60 = x at hx hw
  have hb : x.length ≤ 65536 := by omega
  obtain ⟨t1, hl⟩ := lessE x a b hb hw
  obtain ⟨t2, hc2⟩ := commonE x a b hb hw
  obtain ⟨t3, pe, hp, hp1, hp2⟩ := pieceE x a hb hw
  have hk2 : ∃ t, Ev (fun k => suffix_Kinds.f k x) (t, chk x) := by
    have := kindsK x hb hw
    by_cases hT : Txt x
    · rw [if_pos hT] at this; exact ⟨_, by rw [(txt_iff x).2 hT]; exact this⟩
    · rw [if_neg hT] at this; exact ⟨_, this⟩
  have hf2 : ∃ t, Ev (fun k => suffix_Firsts.f k x) (t, chk x) := by
    have := firsts x hb hw
    by_cases hT : Txt x
    · rw [if_pos hT] at this; exact ⟨_, by rw [(txt_iff x).2 hT]; exact this⟩
    · rw [if_neg hT] at this; exact ⟨_, this⟩
  have hs2 : ∃ t, Ev (fun k => suffix_Sort.f k x) (t, chk x) := by
    have := sort x hb hw
    by_cases hT : Txt x
    · rw [if_pos hT] at this; exact ⟨_, by rw [(txt_iff x).2 hT]; exact this⟩
    · rw [if_neg hT] at this; exact ⟨_, this⟩
  obtain ⟨u1, hk2⟩ := hk2
  obtain ⟨u2, hf2⟩ := hf2
  obtain ⟨u3, hs2⟩ := hs2
  refine Ev.rounds ?_
  refine Ev.bind (refCheck x hb) ?_
  refine Ev.bind hk2 ?_
  refine Ev.bind hf2 ?_
  refine Ev.bind hl ?_
  refine Ev.bind hs2 ?_
  refine Ev.bind hc2 ?_
  refine Ev.bind hp ?_
  refine Ev.bind (check x hb hw) ?_
  simp only [if_true, bne_self_eq_false]
  by_cases hc : chk x = 0
  · have hT := (txt_iff x).1 hc
    rw [if_pos hc, hc]
    have hp3 := hp2 hc
    rw [inAll1] at hp3
    simp only [inAll2]
    refine Ev.step (f := ?f) ?h ?e
    case h =>
      intro k
      simp only [incipitlaw15_SuffixChecks.j0]
      rw [if_neg (by decide), if_pos trivial]
    case e =>
      by_cases h1 : 0 ≤ a
      · by_cases h2 : a < (x.length : Int)
        · by_cases h3 : 0 ≤ b
          · simp only [if_pos (show a ≥ 0 from h1), if_pos h2, if_pos (show b ≥ 0 from h3)]
            refine Ev.bind known ?_
            by_cases h4 : b < (x.length : Int)
            · simp [h1, h2, h3, h4]; exact Ev.now _
            · simp [h1, h2, h3, h4]; exact Ev.now _
          · simp only [if_pos (show a ≥ 0 from h1), if_pos h2, if_neg (show ¬ b ≥ 0 from h3)]
            refine Ev.bind known ?_
            simp [h1, h2, h3]; exact Ev.now _
        · simp only [if_pos (show a ≥ 0 from h1), if_neg h2]
          refine Ev.bind known ?_
          rw [hp3 (fun h => h2 h.2)]
          simp [h1, h2]; exact Ev.now _
      · simp only [if_neg (show ¬ a ≥ 0 from h1)]
        refine Ev.bind known ?_
        rw [hp3 (fun h => h1 h.1)]
        simp [h1]; exact Ev.now _
  · rw [if_neg hc, hp1 hc]
    refine Ev.step (f := ?f2) ?h2 ?e2
    case h2 =>
      intro k
      simp only [incipitlaw15_SuffixChecks.j0]
      rw [if_neg (by decide), if_neg hc, raw, Option.bind_some, List.take_of_length_le hx]
    case e2 =>
      have hcm := commons x x hb hb hw
      rw [if_neg hc] at hcm
      refine Ev.bind hcm ?_
      refine Ev.bind known ?_
      simp only [if_true]
      have hr := right x x hb hb hw
      rw [decide_eq_false (fun h => hc ((txt_iff x).2 h.2.2.1))] at hr
      exact Ev.bind hr (Ev.now _)

end Go.Proofs.Ythkofhidhghmmaa.SufCPure
