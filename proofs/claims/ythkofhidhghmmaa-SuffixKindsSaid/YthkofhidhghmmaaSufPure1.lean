/- Layer 15: the pure side: orders turned. -/
import Derived.Test.YthkofhidhghmmaaPSufx4
import Derived.Test.YthkofhidhghmmaaEvW
namespace Go.Proofs.Ythkofhidhghmmaa.SufPure
open Go.RowKit Go.Proofs.Ythkofhidhghmmaa Go.Proofs.Ythkofhidhghmmaa.PSuf Go.Proofs.YthkofhidhghmmaaW.PrintWords Go.Proofs.YthkofhidhghmmaaW.PrintMore
set_option linter.unusedVariables false

theorem known_mono : ∀ k, LeO (incipitlaw15_known.f k) (incipitlaw15_known.f (k + 1)) := incipitlaw15_known.mono
set_option maxRecDepth 100000 in
theorem known : Ev (fun k => incipitlaw15_known.f k) true := Ev.of known_mono (k := 60) (by kernel_rfl)
theorem raw (l : List Int) : incipitlaw15_raw.f l = some (l.take 60) := by
  unfold incipitlaw15_raw.f
  have h1 : 0 ≤ mn (l.length : Int) 60 := mn_nonneg l.length 60
  have h2 : mn (l.length : Int) 60 ≤ (l.length : Int) := mn_le l.length 60
  have h3 : l.take (mn (l.length : Int) 60).toNat = l.take 60 := take_mn l 60
  rw [if_pos h1, if_pos h2, h3]
/-! ### Same -/
theorem same6_l (a b : List Int) (hl : a.length = b.length) (hs : a.length < 4611686018427387904) : ∀ d i : Nat, i + d = a.length → Ev (fun k => incipitref06_Same.l0 k a b (i : Int)) (decide (a.drop i = b.drop i)) := by
  intro d
  induction d with
  | zero =>
    intro i hi
    rw [List.drop_of_length_le (by omega), List.drop_of_length_le (by omega), decide_eq_true rfl]
    exact Ev_now fun k => by simp only [incipitref06_Same.l0]; rw [if_neg (by omega)]
  | succ d ih =>
    intro i hi
    rw [drop_cons a i 0 (by omega), drop_cons b i 0 (by omega)]
    by_cases e : a.getD i 0 = b.getD i 0
    · rw [e]
      simp only [List.cons.injEq, true_and]
      exact Ev_to (ih (i + 1) (by omega)) fun k => by
        simp only [incipitref06_Same.l0]
        rw [if_pos (by omega), if_pos (by omega), if_pos (by omega), if_pos (by rw [rd_nat, rd_nat, e]), w_succ i (by omega)]
    · rw [decide_eq_false (by simp only [List.cons.injEq]; exact fun h => e h.1)]
      exact Ev_now fun k => by
        simp only [incipitref06_Same.l0]
        rw [if_pos (by omega), if_pos (by omega), if_pos (by omega), if_neg (by rw [rd_nat, rd_nat]; exact e)]
theorem same6 (a b : List Int) (hs : a.length < 4611686018427387904) : Ev (fun k => incipitref06_Same.f k a b) (decide (a = b)) := by
  by_cases h : a.length = b.length
  · have := same6_l a b h hs a.length 0 (by omega)
    simp only [List.drop_zero] at this
    exact Ev_as this fun k => by unfold incipitref06_Same.f; rw [if_pos (by omega)]; rfl
  · rw [decide_eq_false (fun e => h (by rw [e]))]
    exact Ev_eq fun k => by unfold incipitref06_Same.f; rw [if_neg (by omega)]

/-- Each place once. -/
def Good (l : List Int) : Prop := l.Nodup ∧ ∀ x ∈ l, 0 ≤ x ∧ x < (l.length : Int)
instance (l : List Int) : Decidable (Good l) := by unfold Good; infer_instance
def GoodP (n : Nat) (l : List Int) : Prop := l.Nodup ∧ ∀ x ∈ l, 0 ≤ x ∧ x < (n : Int)
/-- Where each number of a row stands. -/
def outOf (n : Nat) (p : List Int) : List Int := (List.range n).map fun (v : Nat) => if (v : Int) ∈ p then (p.idxOf (v : Int) : Int) else -1
theorem outOf_len (n : Nat) (p : List Int) : (outOf n p).length = n := by simp [outOf]
theorem outOf_get (n : Nat) (p : List Int) (v : Nat) (h : v < n) : (outOf n p).getD v 0 = if (v : Int) ∈ p then (p.idxOf (v : Int) : Int) else -1 := by
  simp [outOf, List.getD_eq_getElem?_getD, h]
theorem outOf_nil (n : Nat) : outOf n [] = List.replicate n (-1) := by
  refine List.ext_getElem (by simp [outOf]) fun i h1 h2 => by simp [outOf]
theorem outOf_snoc (n : Nat) (p : List Int) (v : Nat) (hv : (v : Int) ∉ p) : (outOf n p).set v (p.length : Int) = outOf n (p ++ [(v : Int)]) := by
  refine List.ext_getElem (by simp [outOf]) fun i h1 h2 => ?_
  rw [List.getElem_set]
  simp only [outOf, List.getElem_map, List.getElem_range]
  by_cases h : v = i
  · subst h
    simp [List.idxOf_append, hv]
  · rw [if_neg h]
    by_cases hi : (i : Int) ∈ p
    · simp [hi, List.idxOf_append]
    · have : ¬ (i : Int) = (v : Int) := by omega
      simp [hi, this]

theorem goodP_snoc {n : Nat} {p : List Int} {v : Int} (h : GoodP n p) (h0 : 0 ≤ v) (h1 : v < n) (hv : v ∉ p) : GoodP n (p ++ [v]) := by
  refine ⟨?_, fun x hx => ?_⟩
  · rw [List.nodup_append]
    refine ⟨h.1, by simp, fun a ha b hb => ?_⟩
    rw [List.mem_singleton] at hb
    subst hb
    exact fun e => hv (e ▸ ha)
  · rcases List.mem_append.1 hx with hx | hx
    · exact h.2 x hx
    · rw [List.mem_singleton] at hx; subst hx; exact ⟨h0, h1⟩
def turnedR (l : List Int) : List Int × Int := if Good l then (outOf l.length l, 0) else ([], 3)
theorem turned_l1 (l : List Int) (n : Nat) (hn : l.length = n) (hb : n < 1000000) : ∀ d i : Nat, i + d = n → GoodP n (l.take i) → Ev (fun k => suffix_Turned.l1 k l (outOf n (l.take i)) l (n : Int) (i : Int)) (turnedR l) := by
  intro d
  induction d with
  | zero =>
    intro i hi hg
    rw [List.take_of_length_le (by omega)] at hg ⊢
    have hG : Good l := ⟨hg.1, by rw [hn]; exact hg.2⟩
    unfold turnedR
    rw [if_pos hG]
    exact Ev_now fun k => by simp only [suffix_Turned.l1]; rw [if_neg (by omega), hn]
  | succ d ih =>
    intro i hi hg
    have hm := getD_mem l i 0 (by omega)
    have ht := take_succ_getD l i 0 (by omega)
    generalize hv : l.getD i 0 = v at hm ht
    by_cases h0 : v < 0
    · have hG : ¬ Good l := fun h => by have := h.2 v hm; omega
      unfold turnedR
      rw [if_neg hG]
      exact Ev_now fun k => by
        simp only [suffix_Turned.l1]
        rw [if_pos (by omega), if_pos (by omega), if_pos (by omega), if_pos (by rw [rd_nat, hv]; exact h0)]
    · by_cases h1 : (l.length : Int) ≤ v
      · have hG : ¬ Good l := fun h => by have := h.2 v hm; omega
        unfold turnedR
        rw [if_neg hG]
        exact Ev_now fun k => by
          simp only [suffix_Turned.l1]
          rw [if_pos (by omega), if_pos (by omega), if_pos (by omega), if_neg (by rw [rd_nat, hv]; exact h0), if_pos (by rw [rd_nat, hv]; exact h1)]
      · obtain ⟨u, rfl⟩ := Int.eq_ofNat_of_zero_le (show 0 ≤ v by omega)
        have hu : u < n := by omega
        have hr : rd (outOf n (l.take i)) (u : Int) = if (u : Int) ∈ l.take i then ((l.take i).idxOf (u : Int) : Int) else -1 := outOf_get n _ u hu
        by_cases hin : (u : Int) ∈ l.take i
        · have hG : ¬ Good l := fun h => by
            have := h.1
            rw [← List.take_append_drop i l, List.nodup_append] at this
            refine this.2.2 _ hin _ ?_ rfl
            rw [drop_cons l i 0 (by omega), hv]
            exact List.mem_cons_self ..
          unfold turnedR
          rw [if_neg hG]
          rw [if_pos hin] at hr
          exact Ev_now fun k => by
            simp only [suffix_Turned.l1]
            rw [if_pos (by omega), if_pos (by omega), if_pos (by omega), rd_nat, hv, if_neg h0, if_neg (by omega), if_pos (by omega), if_pos (by rw [outOf_len]; omega), if_pos (by rw [hr]; omega)]
        · rw [if_neg hin] at hr
          have hs := outOf_snoc n (l.take i) u hin
          rw [← ht, List.length_take, Nat.min_eq_left (by omega)] at hs
          refine Ev_to (ih (i + 1) (by omega) (by rw [ht]; exact goodP_snoc hg (by omega) (by omega) hin)) fun k => ?_
          simp only [suffix_Turned.l1]
          rw [if_pos (by omega), if_pos (by omega), if_pos (by omega), rd_nat, hv, if_neg h0, if_neg (by omega), if_pos (by omega), if_pos (by rw [outOf_len]; omega), if_neg (by rw [hr]; omega), w_succ i (by omega), Int.toNat_natCast, hs]
theorem turned_l0 (l : List Int) (n : Nat) (hn : l.length = n) (hb : n < 1000000) :
    ∀ d i : Nat, i + d = n → ∀ o : List Int, o.length = n → o.take i = List.replicate i (-1) → Ev (fun k => suffix_Turned.l0 k l o (n : Int) (i : Int)) (turnedR l) := by
  intro d
  induction d with
  | zero =>
    intro i hi o ho hr
    rw [List.take_of_length_le (by omega)] at hr
    have h := turned_l1 l n hn hb n 0 (by omega) ⟨by simp, by simp⟩
    rw [List.take_zero, outOf_nil, show n = i by omega, ← hr] at h
    exact Ev_to h fun k => by
      simp only [suffix_Turned.l0]
      rw [if_neg (by omega), hn, show n = i by omega]; rfl
  | succ d ih =>
    intro i hi o ho hr
    refine Ev_to (ih (i + 1) (by omega) (o.set i (-1)) (by rw [List.length_set, ho]) ?_) fun k => ?_
    · rw [take_succ_getD _ i 0 (by rw [List.length_set]; omega), List.take_set_of_le (Nat.le_refl _), hr, List.replicate_succ']
      simp [List.getD_eq_getElem?_getD, show i < o.length by omega]
    · simp only [suffix_Turned.l0]
      rw [if_pos (by omega), if_pos (by omega), if_pos (by omega), w_succ i (by omega), Int.toNat_natCast]
theorem turned (l : List Int) (hb : l.length < 1000000) : Ev (fun k => suffix_Turned.f k l) (turnedR l) := by
  have h := turned_l0 l l.length rfl hb l.length 0 (by omega) (List.replicate l.length 0) (by simp) (by simp)
  exact Ev_as h fun k => by
    unfold suffix_Turned.f
    rw [if_pos (by omega), if_pos (by omega), Option.bind_some, Int.toNat_natCast, List.length_replicate]; rfl

/-! ### the document's -/
def lastF (v : Int) : List Int → Nat → Int → Int
  | [], _, a => a
  | x :: t, i, a => lastF v t (i + 1) (if x = v then (i : Int) else a)
theorem lastF_out (v : Int) : ∀ (l : List Int) (i : Nat) (a : Int), v ∉ l → lastF v l i a = a
  | [], _, _, _ => rfl
  | x :: t, i, a, h => by
    unfold lastF
    rw [if_neg (fun e => h (by rw [e]; exact List.mem_cons_self ..))]
    exact lastF_out v t (i + 1) a fun e => h (List.mem_cons_of_mem _ e)
theorem lastF_idx (v : Int) : ∀ (l : List Int) (i : Nat) (a : Int), l.Nodup → v ∈ l → lastF v l i a = ((i + l.idxOf v : Nat) : Int)
  | [], _, _, _, h => by simp at h
  | x :: t, i, a, hd, h => by
    have hd' := List.nodup_cons.1 hd
    unfold lastF
    by_cases e : x = v
    · subst e
      rw [if_pos rfl, lastF_out _ t _ _ hd'.1]; simp
    · rw [if_neg e, lastF_idx v t (i + 1) a hd'.2 (by rcases List.mem_cons.1 h with h | h; exact absurd h.symm e; exact h)]
      rw [List.idxOf_cons]
      simp [show ¬ (x == v) = true by simpa using e]
      omega
theorem lastF_pos (v : Int) : ∀ (l : List Int) (i : Nat) (a : Int), (0 ≤ a ∨ v ∈ l) → 0 ≤ lastF v l i a
  | [], _, a, h => by
    rcases h with h | h
    · exact h
    · simp at h
  | x :: t, i, a, h => by
    unfold lastF
    by_cases e : x = v
    · rw [if_pos e]; exact lastF_pos v t (i + 1) _ (.inl (by omega))
    · rw [if_neg e]
      refine lastF_pos v t (i + 1) a ?_
      rcases h with h | h
      · exact .inl h
      · exact .inr (by rcases List.mem_cons.1 h with h | h; exact absurd h.symm e; exact h)
def AllIn (l : List Int) (n : Nat) : Prop := ∀ u : Nat, u < n → (u : Int) ∈ l
def refR (l : List Int) (n : Nat) (m : Nat) : List Int := (List.range m).map fun (v : Nat) => lastF (v : Int) l 0 (-1)
theorem refR_succ (l : List Int) (n m : Nat) : refR l n (m + 1) = refR l n m ++ [lastF (m : Int) l 0 (-1)] := by unfold refR; rw [List.range_succ]; simp
theorem refT_l1 (l : List Int) (hb : l.length < 1000000) (o : List Int) (ho : o.length < 1000000) (v : Int) (r : List Int × Bool) : ∀ d i : Nat, i + d = l.length → ∀ a, Ev (fun k => if lastF v (l.drop i) i a < 0 then some (([] : List Int), false) else incipitref15_Turned.l0 k l (o ++ [lastF v (l.drop i) i a]) (wrap64 (v + 1))) r → Ev (fun k => incipitref15_Turned.l1 k l o v a (i : Int)) r := by
  intro d
  induction d with
  | zero =>
    intro i hi a h
    rw [List.drop_of_length_le (by omega)] at h
    exact Ev_to h fun k => by
      simp only [incipitref15_Turned.l1]
      rw [if_neg (by omega), if_pos (show o.length < 17592186044416 by omega)]; rfl
  | succ d ih =>
    intro i hi a h
    rw [drop_cons l i 0 (by omega)] at h
    unfold lastF at h
    refine Ev_to (ih (i + 1) (by omega) _ h) fun k => ?_
    simp only [incipitref15_Turned.l1]
    rw [if_pos (by omega), if_pos (by omega), rd_nat, w_succ i (by omega)]
    by_cases e : l.getD i 0 = v
    · rw [if_pos e, if_pos e]
    · rw [if_neg e, if_neg e]
instance (l : List Int) (n : Nat) : Decidable (AllIn l n) := by unfold AllIn; infer_instance
theorem refT_l0 (l : List Int) (hb : l.length < 1000000) : ∀ d m : Nat, m + d = l.length → AllIn l m → Ev (fun k => incipitref15_Turned.l0 k l (refR l l.length m) (m : Int)) (if AllIn l l.length then (refR l l.length l.length, true) else ([], false)) := by
  intro d
  induction d with
  | zero =>
    intro m hm ha
    rw [show m = l.length by omega] at ha ⊢
    rw [if_pos ha]
    exact Ev_now fun k => by simp only [incipitref15_Turned.l0]; rw [if_neg (by omega)]
  | succ d ih =>
    intro m hm ha
    have hl : (refR l l.length m).length < 1000000 := by simp [refR]; omega
    by_cases hin : (m : Int) ∈ l
    · have hp := lastF_pos (m : Int) l 0 (-1) (.inr hin)
      have h := ih (m + 1) (by omega) (fun u hu => by
        by_cases e : u = m
        · rw [e]; exact hin
        · exact ha u (by omega))
      rw [refR_succ] at h
      exact Ev_to (refT_l1 l hb _ hl (m : Int) _ l.length 0 (by omega) (-1) (Ev_as h fun k => by
        rw [List.drop_zero, if_neg (by omega), w_succ m (by omega)])) fun k => by
        simp only [incipitref15_Turned.l0]
        rw [if_pos (by omega)]; rfl
    · have hp := lastF_out (m : Int) l 0 (-1) hin
      rw [if_neg (fun h => hin (h m (by omega)))]
      exact Ev_to (refT_l1 l hb _ hl (m : Int) _ l.length 0 (by omega) (-1) (Ev_eq fun k => by
        rw [List.drop_zero, hp, if_pos (by omega)])) fun k => by
        simp only [incipitref15_Turned.l0]
        rw [if_pos (by omega)]; rfl
theorem refTurned (l : List Int) (hb : l.length < 1000000) : Ev (fun k => incipitref15_Turned.f k l) (if AllIn l l.length then (refR l l.length l.length, true) else ([], false)) :=
  refT_l0 l hb l.length 0 (by omega) fun u hu => absurd hu (by omega)

/-! ### each place once -/
theorem pigeon {α : Type} [DecidableEq α] : ∀ (a b : List α), a.Nodup → (∀ x ∈ a, x ∈ b) → a.length ≤ b.length
  | [], _, _, _ => Nat.zero_le _
  | x :: a, b, hd, hs => by
    have hd' := List.nodup_cons.1 hd
    have hx := hs x (List.mem_cons_self ..)
    have := pigeon a (b.erase x) hd'.2 fun y hy => (List.mem_erase_of_ne (fun (e : y = x) => hd'.1 (e ▸ hy))).2 (hs y (List.mem_cons_of_mem _ hy))
    rw [List.length_erase_of_mem hx] at this
    have := List.length_pos_of_mem hx
    simp only [List.length_cons]
    omega
theorem nodup_of_erase {α : Type} [DecidableEq α] : ∀ (l : List α), (∀ x ∈ l, x ∉ l.erase x) → l.Nodup
  | [], _ => List.nodup_nil
  | a :: t, h => by
    have h0 : a ∉ t := by have := h a (List.mem_cons_self ..); rwa [List.erase_cons_head] at this
    refine List.nodup_cons.2 ⟨h0, nodup_of_erase t fun x hx hx2 => ?_⟩
    have := h x (List.mem_cons_of_mem _ hx)
    rw [List.erase_cons_tail (by simp; exact fun e => h0 (e ▸ hx))] at this
    exact this (List.mem_cons_of_mem _ hx2)
def placesI (n : Nat) : List Int := (List.range n).map fun (v : Nat) => (v : Int)
theorem placesI_nodup (n : Nat) : (placesI n).Nodup := by
  unfold placesI
  unfold List.Nodup
  rw [List.pairwise_map]
  exact List.nodup_range.imp fun h e => h (by omega)
theorem mem_placesI (n : Nat) (x : Int) : x ∈ placesI n ↔ 0 ≤ x ∧ x < n := by
  unfold placesI
  rw [List.mem_map]
  constructor
  · rintro ⟨u, hu, rfl⟩; rw [List.mem_range] at hu; omega
  · rintro ⟨h0, h1⟩
    exact ⟨x.toNat, List.mem_range.2 (by omega), by omega⟩
theorem placesI_len (n : Nat) : (placesI n).length = n := by simp [placesI]
theorem good_iff (l : List Int) : Good l ↔ AllIn l l.length := by
  constructor
  · intro h u hu
    refine Classical.byContradiction fun hn => ?_
    have := pigeon ((u : Int) :: l) (placesI l.length) (List.nodup_cons.2 ⟨hn, h.1⟩) fun x hx => by
      rw [mem_placesI]
      rcases List.mem_cons.1 hx with rfl | hx
      · omega
      · exact h.2 x hx
    rw [placesI_len, List.length_cons] at this
    omega
  · intro h
    have hs : ∀ x ∈ placesI l.length, x ∈ l := fun x hx => by
      rw [mem_placesI] at hx
      have := h x.toNat (by omega)
      rwa [Int.toNat_of_nonneg hx.1] at this
    refine ⟨nodup_of_erase l fun x hx hx2 => ?_, fun x hx => ?_⟩
    · have := pigeon (placesI l.length) (l.erase x) (placesI_nodup _) fun y hy => by
        by_cases e : y = x
        · rw [e]; exact hx2
        · exact (List.mem_erase_of_ne e).2 (hs y hy)
      rw [placesI_len, List.length_erase_of_mem hx] at this
      have := List.length_pos_of_mem hx
      omega
    · refine Classical.byContradiction fun hn => ?_
      have := pigeon (x :: placesI l.length) l (List.nodup_cons.2 ⟨fun h => hn ((mem_placesI _ _).1 h), placesI_nodup _⟩) fun y hy => by
        rcases List.mem_cons.1 hy with rfl | hy
        · exact hx
        · exact hs y hy
      rw [List.length_cons, placesI_len] at this
      omega
theorem good_all {l : List Int} (h : Good l) {u : Nat} (hu : u < l.length) : (u : Int) ∈ l := (good_iff l).1 h u hu
theorem outOf_good {l : List Int} (h : Good l) (v : Nat) (hv : v < l.length) : (outOf l.length l).getD v 0 = (l.idxOf (v : Int) : Int) := by
  rw [outOf_get _ _ _ hv, if_pos (good_all h hv)]
theorem idxOf_getD {l : List Int} {x : Int} (h : x ∈ l) : l.getD (l.idxOf x) 0 = x := by
  have := List.idxOf_lt_length_iff.2 h
  rw [getD_lt _ _ _ this]
  exact List.getElem_idxOf this
theorem refR_good {l : List Int} (h : Good l) : refR l l.length l.length = outOf l.length l := by
  refine List.ext_getElem (by simp [refR, outOf]) fun i h1 h2 => ?_
  have hi : i < l.length := by simpa [refR] using h1
  simp only [refR, outOf, List.getElem_map, List.getElem_range]
  rw [if_pos (good_all h hi), lastF_idx _ _ _ _ h.1 (good_all h hi), Nat.zero_add]
theorem good_turned {l : List Int} (h : Good l) : Good (outOf l.length l) := by
  refine ⟨?_, fun x hx => ?_⟩
  · unfold List.Nodup
    rw [List.pairwise_iff_getElem]
    intro i j hi hj hij e
    rw [outOf_len] at hi hj
    have e1 := outOf_good h i hi
    have e2 := outOf_good h j hj
    rw [getD_lt _ _ _ (by rw [outOf_len]; omega)] at e1 e2
    have e3 : l.idxOf (i : Int) = l.idxOf (j : Int) := by omega
    have e4 := idxOf_getD (good_all h hi)
    rw [e3, idxOf_getD (good_all h hj)] at e4
    omega
  · obtain ⟨i, hi, rfl⟩ := List.getElem_of_mem hx
    rw [outOf_len] at hi ⊢
    have e1 := outOf_good h i hi
    rw [getD_lt _ _ _ (by rw [outOf_len]; omega)] at e1
    have := List.idxOf_lt_length_iff.2 (good_all h hi)
    omega
theorem turned_twice {l : List Int} (h : Good l) : outOf l.length (outOf l.length l) = l := by
  have hg := good_turned h
  refine List.ext_getElem (by simp [outOf]) fun v h1 h2 => ?_
  have e1 := outOf_good hg v (by rw [outOf_len]; exact h2)
  rw [outOf_len, getD_lt _ _ _ h1] at e1
  rw [e1]
  have hm := good_all hg (u := v) (by rw [outOf_len]; exact h2)
  have hlt := List.idxOf_lt_length_iff.2 hm
  have e2 := idxOf_getD hm
  rw [outOf_len] at hlt
  rw [outOf_good h _ hlt] at e2
  have e3 := idxOf_getD (good_all h hlt)
  rw [show l.idxOf (((outOf l.length l).idxOf (v : Int) : Nat) : Int) = v by omega, getD_lt _ _ _ h2] at e3
  exact e3.symm

theorem SuffixTurns : incipitlaw15_SuffixTurns.Pure := by
  intro l0 _ _ _
  have hlen : (l0.take 60).length ≤ 60 := List.length_take_le _ _
  unfold incipitlaw15_SuffixTurns.f
  simp only [raw, Option.bind_some]
  generalize l0.take 60 = l at hlen
  refine Ev.rounds ?_
  refine Ev.bind (turned l (by omega)) ?_
  refine Ev.bind (refTurned l (by omega)) ?_
  unfold turnedR
  by_cases hG : Good l
  · have hA := (good_iff l).1 hG
    rw [if_pos hG, if_pos hA]
    have ht := turned (outOf l.length l) (by rw [outOf_len]; omega)
    unfold turnedR at ht
    rw [if_pos (good_turned hG), outOf_len, turned_twice hG] at ht
    simp only [if_true]
    refine Ev.bind ht ?_
    refine Ev.bind known ?_
    simp only [if_true]
    refine Ev.bind (same6 _ _ (by rw [outOf_len]; omega)) ?_
    rw [refR_good hG, decide_eq_true rfl]
    simp only [if_true]
    have := same6 l l (by omega)
    rw [decide_eq_true rfl] at this
    exact Ev.bind this (Ev.now _)
  · have hA : ¬ AllIn l l.length := fun h => hG ((good_iff l).2 h)
    rw [if_neg hG, if_neg hA]
    simp only [if_neg (show ¬ false = true by decide)]
    refine Ev.bind known ?_
    simp only [if_true]
    exact Ev_eq fun k => rfl
end Go.Proofs.Ythkofhidhghmmaa.SufPure
