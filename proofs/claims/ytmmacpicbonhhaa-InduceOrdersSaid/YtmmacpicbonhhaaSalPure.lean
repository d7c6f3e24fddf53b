/- The pure side of what layers 15 and 16 do, for the laws on levels and on the order that is induced (wip/tools/mkpure.py wrote it out of SufPure1, SufPure2, SufPure3, SufPure4, SufPure5, SufPure6, SufPure7, IndPure2, IndPure3, IndPure4, NmPure, RedPure). -/
import Derived.Test.YtmmacpicbonhhaaPSalx3
import Derived.Test.YtmmacpicbonhhaaPSalx0
import Derived.Test.YtmmacpicbonhhaaPSalx1
import Derived.Test.YtmmacpicbonhhaaPSalx2
import Derived.Test.YtmmacpicbonhhaaEvW
namespace Go.Proofs.Ytmmacpicbonhhaa.SalPure
open Go.RowKit Go.Proofs.Ytmmacpicbonhhaa Go.Proofs.Ytmmacpicbonhhaa.PSal Go.Proofs.YtmmacpicbonhhaaW.PrintWords Go.Proofs.YtmmacpicbonhhaaW.PrintMore
set_option linter.unusedVariables false

/-! ### Same -/
theorem same6_l (a b : List Int) (hl : a.length = b.length) (hs : a.length < 4611686018427387904) : ∀ d i : Nat, i + d = a.length → Ev (fun k => incipitref06_Same.l0 k a b (i : Int)) (decide (a.drop i = b.drop i)) := by
  intro d
  induction d with
  | zero =>
    intro i hi
    rw [List.drop_of_length_le (by omega), List.drop_of_length_le (by omega), decide_eq_true rfl]
    exact Ev_now fun k => by simp only [incipitref06_Same.l0]; rw [if_neg (by omega)]
  | succ d ih =>
    intro i hi
    rw [drop_cons a i 0 (by omega), drop_cons b i 0 (by omega)]
    by_cases e : a.getD i 0 = b.getD i 0
    · rw [e]
      simp only [List.cons.injEq, true_and]
      exact Ev_to (ih (i + 1) (by omega)) fun k => by
        simp only [incipitref06_Same.l0]
        rw [if_pos (by omega), if_pos (by omega), if_pos (by omega), if_pos (by rw [rd_nat, rd_nat, e]), w_succ i (by omega)]
    · rw [decide_eq_false (by simp only [List.cons.injEq]; exact fun h => e h.1)]
      exact Ev_now fun k => by
        simp only [incipitref06_Same.l0]
        rw [if_pos (by omega), if_pos (by omega), if_pos (by omega), if_neg (by rw [rd_nat, rd_nat]; exact e)]
theorem same6 (a b : List Int) (hs : a.length < 4611686018427387904) : Ev (fun k => incipitref06_Same.f k a b) (decide (a = b)) := by
  by_cases h : a.length = b.length
  · have := same6_l a b h hs a.length 0 (by omega)
    simp only [List.drop_zero] at this
    exact Ev_as this fun k => by unfold incipitref06_Same.f; rw [if_pos (by omega)]; rfl
  · rw [decide_eq_false (fun e => h (by rw [e]))]
    exact Ev_eq fun k => by unfold incipitref06_Same.f; rw [if_neg (by omega)]

/-- Each place once. -/
def Good (l : List Int) : Prop := l.Nodup ∧ ∀ x ∈ l, 0 ≤ x ∧ x < (l.length : Int)
instance (l : List Int) : Decidable (Good l) := by unfold Good; infer_instance
def GoodP (n : Nat) (l : List Int) : Prop := l.Nodup ∧ ∀ x ∈ l, 0 ≤ x ∧ x < (n : Int)
/-- Where each number of a row stands. -/
def outOf (n : Nat) (p : List Int) : List Int := (List.range n).map fun (v : Nat) => if (v : Int) ∈ p then (p.idxOf (v : Int) : Int) else -1
theorem outOf_len (n : Nat) (p : List Int) : (outOf n p).length = n := by simp [outOf]
theorem outOf_get (n : Nat) (p : List Int) (v : Nat) (h : v < n) : (outOf n p).getD v 0 = if (v : Int) ∈ p then (p.idxOf (v : Int) : Int) else -1 := by
  simp [outOf, List.getD_eq_getElem?_getD, h]
theorem outOf_nil (n : Nat) : outOf n [] = List.replicate n (-1) := by
  refine List.ext_getElem (by simp [outOf]) fun i h1 h2 => by simp [outOf]
theorem outOf_snoc (n : Nat) (p : List Int) (v : Nat) (hv : (v : Int) ∉ p) : (outOf n p).set v (p.length : Int) = outOf n (p ++ [(v : Int)]) := by
  refine List.ext_getElem (by simp [outOf]) fun i h1 h2 => ?_
  rw [List.getElem_set]
  simp only [outOf, List.getElem_map, List.getElem_range]
  by_cases h : v = i
  · subst h
    simp [List.idxOf_append, hv]
  · rw [if_neg h]
    by_cases hi : (i : Int) ∈ p
    · simp [hi, List.idxOf_append]
    · have : ¬ (i : Int) = (v : Int) := by omega
      simp [hi, this]

theorem goodP_snoc {n : Nat} {p : List Int} {v : Int} (h : GoodP n p) (h0 : 0 ≤ v) (h1 : v < n) (hv : v ∉ p) : GoodP n (p ++ [v]) := by
  refine ⟨?_, fun x hx => ?_⟩
  · rw [List.nodup_append]
    refine ⟨h.1, by simp, fun a ha b hb => ?_⟩
    rw [List.mem_singleton] at hb
    subst hb
    exact fun e => hv (e ▸ ha)
  · rcases List.mem_append.1 hx with hx | hx
    · exact h.2 x hx
    · rw [List.mem_singleton] at hx; subst hx; exact ⟨h0, h1⟩
def turnedR (l : List Int) : List Int × Int := if Good l then (outOf l.length l, 0) else ([], 3)
theorem turned_l1 (l : List Int) (n : Nat) (hn : l.length = n) (hb : n < 1000000) : ∀ d i : Nat, i + d = n → GoodP n (l.take i) → Ev (fun k => suffix_Turned.l1 k l (outOf n (l.take i)) l (n : Int) (i : Int)) (turnedR l) := by
  intro d
  induction d with
  | zero =>
    intro i hi hg
    rw [List.take_of_length_le (by omega)] at hg ⊢
    have hG : Good l := ⟨hg.1, by rw [hn]; exact hg.2⟩
    unfold turnedR
    rw [if_pos hG]
    exact Ev_now fun k => by simp only [suffix_Turned.l1]; rw [if_neg (by omega), hn]
  | succ d ih =>
    intro i hi hg
    have hm := getD_mem l i 0 (by omega)
    have ht := take_succ_getD l i 0 (by omega)
    generalize hv : l.getD i 0 = v at hm ht
    by_cases h0 : v < 0
    · have hG : ¬ Good l := fun h => by have := h.2 v hm; omega
      unfold turnedR
      rw [if_neg hG]
      exact Ev_now fun k => by
        simp only [suffix_Turned.l1]
        rw [if_pos (by omega), if_pos (by omega), if_pos (by omega), if_pos (by rw [rd_nat, hv]; exact h0)]
    · by_cases h1 : (l.length : Int) ≤ v
      · have hG : ¬ Good l := fun h => by have := h.2 v hm; omega
        unfold turnedR
        rw [if_neg hG]
        exact Ev_now fun k => by
          simp only [suffix_Turned.l1]
          rw [if_pos (by omega), if_pos (by omega), if_pos (by omega), if_neg (by rw [rd_nat, hv]; exact h0), if_pos (by rw [rd_nat, hv]; exact h1)]
      · obtain ⟨u, rfl⟩ := Int.eq_ofNat_of_zero_le (show 0 ≤ v by omega)
        have hu : u < n := by omega
        have hr : rd (outOf n (l.take i)) (u : Int) = if (u : Int) ∈ l.take i then ((l.take i).idxOf (u : Int) : Int) else -1 := outOf_get n _ u hu
        by_cases hin : (u : Int) ∈ l.take i
        · have hG : ¬ Good l := fun h => by
            have := h.1
            rw [← List.take_append_drop i l, List.nodup_append] at this
            refine this.2.2 _ hin _ ?_ rfl
            rw [drop_cons l i 0 (by omega), hv]
            exact List.mem_cons_self ..
          unfold turnedR
          rw [if_neg hG]
          rw [if_pos hin] at hr
          exact Ev_now fun k => by
            simp only [suffix_Turned.l1]
            rw [if_pos (by omega), if_pos (by omega), if_pos (by omega), rd_nat, hv, if_neg h0, if_neg (by omega), if_pos (by omega), if_pos (by rw [outOf_len]; omega), if_pos (by rw [hr]; omega)]
        · rw [if_neg hin] at hr
          have hs := outOf_snoc n (l.take i) u hin
          rw [← ht, List.length_take, Nat.min_eq_left (by omega)] at hs
          refine Ev_to (ih (i + 1) (by omega) (by rw [ht]; exact goodP_snoc hg (by omega) (by omega) hin)) fun k => ?_
          simp only [suffix_Turned.l1]
          rw [if_pos (by omega), if_pos (by omega), if_pos (by omega), rd_nat, hv, if_neg h0, if_neg (by omega), if_pos (by omega), if_pos (by rw [outOf_len]; omega), if_neg (by rw [hr]; omega), w_succ i (by omega), Int.toNat_natCast, hs]
theorem turned_l0 (l : List Int) (n : Nat) (hn : l.length = n) (hb : n < 1000000) :
    ∀ d i : Nat, i + d = n → ∀ o : List Int, o.length = n → o.take i = List.replicate i (-1) → Ev (fun k => suffix_Turned.l0 k l o (n : Int) (i : Int)) (turnedR l) := by
  intro d
  induction d with
  | zero =>
    intro i hi o ho hr
    rw [List.take_of_length_le (by omega)] at hr
    have h := turned_l1 l n hn hb n 0 (by omega) ⟨by simp, by simp⟩
    rw [List.take_zero, outOf_nil, show n = i by omega, ← hr] at h
    exact Ev_to h fun k => by
      simp only [suffix_Turned.l0]
      rw [if_neg (by omega), hn, show n = i by omega]; rfl
  | succ d ih =>
    intro i hi o ho hr
    refine Ev_to (ih (i + 1) (by omega) (o.set i (-1)) (by rw [List.length_set, ho]) ?_) fun k => ?_
    · rw [take_succ_getD _ i 0 (by rw [List.length_set]; omega), List.take_set_of_le (Nat.le_refl _), hr, List.replicate_succ']
      simp [List.getD_eq_getElem?_getD, show i < o.length by omega]
    · simp only [suffix_Turned.l0]
      rw [if_pos (by omega), if_pos (by omega), if_pos (by omega), w_succ i (by omega), Int.toNat_natCast]
theorem turned (l : List Int) (hb : l.length < 1000000) : Ev (fun k => suffix_Turned.f k l) (turnedR l) := by
  have h := turned_l0 l l.length rfl hb l.length 0 (by omega) (List.replicate l.length 0) (by simp) (by simp)
  exact Ev_as h fun k => by
    unfold suffix_Turned.f
    rw [if_pos (by omega), if_pos (by omega), Option.bind_some, Int.toNat_natCast, List.length_replicate]; rfl

/-! ### the document's -/
def AllIn (l : List Int) (n : Nat) : Prop := ∀ u : Nat, u < n → (u : Int) ∈ l
instance (l : List Int) (n : Nat) : Decidable (AllIn l n) := by unfold AllIn; infer_instance
/-! ### each place once -/
theorem pigeon {α : Type} [DecidableEq α] : ∀ (a b : List α), a.Nodup → (∀ x ∈ a, x ∈ b) → a.length ≤ b.length
  | [], _, _, _ => Nat.zero_le _
  | x :: a, b, hd, hs => by
    have hd' := List.nodup_cons.1 hd
    have hx := hs x (List.mem_cons_self ..)
    have := pigeon a (b.erase x) hd'.2 fun y hy => (List.mem_erase_of_ne (fun (e : y = x) => hd'.1 (e ▸ hy))).2 (hs y (List.mem_cons_of_mem _ hy))
    rw [List.length_erase_of_mem hx] at this
    have := List.length_pos_of_mem hx
    simp only [List.length_cons]
    omega
theorem nodup_of_erase {α : Type} [DecidableEq α] : ∀ (l : List α), (∀ x ∈ l, x ∉ l.erase x) → l.Nodup
  | [], _ => List.nodup_nil
  | a :: t, h => by
    have h0 : a ∉ t := by have := h a (List.mem_cons_self ..); rwa [List.erase_cons_head] at this
    refine List.nodup_cons.2 ⟨h0, nodup_of_erase t fun x hx hx2 => ?_⟩
    have := h x (List.mem_cons_of_mem _ hx)
    rw [List.erase_cons_tail (by simp; exact fun e => h0 (e ▸ hx))] at this
    exact this (List.mem_cons_of_mem _ hx2)
def placesI (n : Nat) : List Int := (List.range n).map fun (v : Nat) => (v : Int)
theorem placesI_nodup (n : Nat) : (placesI n).Nodup := by
  unfold placesI
  unfold List.Nodup
  rw [List.pairwise_map]
  exact List.nodup_range.imp fun h e => h (by omega)
theorem mem_placesI (n : Nat) (x : Int) : x ∈ placesI n ↔ 0 ≤ x ∧ x < n := by
  unfold placesI
  rw [List.mem_map]
  constructor
  · rintro ⟨u, hu, rfl⟩; rw [List.mem_range] at hu; omega
  · rintro ⟨h0, h1⟩
    exact ⟨x.toNat, List.mem_range.2 (by omega), by omega⟩
theorem placesI_len (n : Nat) : (placesI n).length = n := by simp [placesI]
theorem good_iff (l : List Int) : Good l ↔ AllIn l l.length := by
  constructor
  · intro h u hu
    refine Classical.byContradiction fun hn => ?_
    have := pigeon ((u : Int) :: l) (placesI l.length) (List.nodup_cons.2 ⟨hn, h.1⟩) fun x hx => by
      rw [mem_placesI]
      rcases List.mem_cons.1 hx with rfl | hx
      · omega
      · exact h.2 x hx
    rw [placesI_len, List.length_cons] at this
    omega
  · intro h
    have hs : ∀ x ∈ placesI l.length, x ∈ l := fun x hx => by
      rw [mem_placesI] at hx
      have := h x.toNat (by omega)
      rwa [Int.toNat_of_nonneg hx.1] at this
    refine ⟨nodup_of_erase l fun x hx hx2 => ?_, fun x hx => ?_⟩
    · have := pigeon (placesI l.length) (l.erase x) (placesI_nodup _) fun y hy => by
        by_cases e : y = x
        · rw [e]; exact hx2
        · exact (List.mem_erase_of_ne e).2 (hs y hy)
      rw [placesI_len, List.length_erase_of_mem hx] at this
      have := List.length_pos_of_mem hx
      omega
    · refine Classical.byContradiction fun hn => ?_
      have := pigeon (x :: placesI l.length) l (List.nodup_cons.2 ⟨fun h => hn ((mem_placesI _ _).1 h), placesI_nodup _⟩) fun y hy => by
        rcases List.mem_cons.1 hy with rfl | hy
        · exact hx
        · exact hs y hy
      rw [List.length_cons, placesI_len] at this
      omega
theorem good_all {l : List Int} (h : Good l) {u : Nat} (hu : u < l.length) : (u : Int) ∈ l := (good_iff l).1 h u hu
theorem outOf_good {l : List Int} (h : Good l) (v : Nat) (hv : v < l.length) : (outOf l.length l).getD v 0 = (l.idxOf (v : Int) : Int) := by
  rw [outOf_get _ _ _ hv, if_pos (good_all h hv)]
theorem idxOf_getD {l : List Int} {x : Int} (h : x ∈ l) : l.getD (l.idxOf x) 0 = x := by
  have := List.idxOf_lt_length_iff.2 h
  rw [getD_lt _ _ _ this]
  exact List.getElem_idxOf this
theorem good_turned {l : List Int} (h : Good l) : Good (outOf l.length l) := by
  refine ⟨?_, fun x hx => ?_⟩
  · unfold List.Nodup
    rw [List.pairwise_iff_getElem]
    intro i j hi hj hij e
    rw [outOf_len] at hi hj
    have e1 := outOf_good h i hi
    have e2 := outOf_good h j hj
    rw [getD_lt _ _ _ (by rw [outOf_len]; omega)] at e1 e2
    have e3 : l.idxOf (i : Int) = l.idxOf (j : Int) := by omega
    have e4 := idxOf_getD (good_all h hi)
    rw [e3, idxOf_getD (good_all h hj)] at e4
    omega
  · obtain ⟨i, hi, rfl⟩ := List.getElem_of_mem hx
    rw [outOf_len] at hi ⊢
    have e1 := outOf_good h i hi
    rw [getD_lt _ _ _ (by rw [outOf_len]; omega)] at e1
    have := List.idxOf_lt_length_iff.2 (good_all h hi)
    omega
theorem turned_twice {l : List Int} (h : Good l) : outOf l.length (outOf l.length l) = l := by
  have hg := good_turned h
  refine List.ext_getElem (by simp [outOf]) fun v h1 h2 => ?_
  have e1 := outOf_good hg v (by rw [outOf_len]; exact h2)
  rw [outOf_len, getD_lt _ _ _ h1] at e1
  rw [e1]
  have hm := good_all hg (u := v) (by rw [outOf_len]; exact h2)
  have hlt := List.idxOf_lt_length_iff.2 hm
  have e2 := idxOf_getD hm
  rw [outOf_len] at hlt
  rw [outOf_good h _ hlt] at e2
  have e3 := idxOf_getD (good_all h hlt)
  rw [show l.idxOf (((outOf l.length l).idxOf (v : Int) : Nat) : Int) = v by omega, getD_lt _ _ _ h2] at e3
  exact e3.symm


/-! ### what is a text -/
theorem index_l (l : List Int) (hb : l.length < 1000000) (v : Int) : ∀ d i : Nat, i + d = l.length → v ∉ l.take i → Ev (fun k => slices_Index_int_int.l0 k l v (l.length : Int) (i : Int)) (if v ∈ l then (l.idxOf v : Int) else -1) := by
  intro d
  induction d with
  | zero =>
    intro i hi hn
    rw [List.take_of_length_le (by omega)] at hn
    rw [if_neg hn]
    exact Ev_now fun k => by simp only [slices_Index_int_int.l0]; rw [if_neg (by omega)]
  | succ d ih =>
    intro i hi hn
    by_cases e : v = l.getD i 0
    · have hm := getD_mem l i 0 (by omega)
      have hx : l.idxOf v = i := by
        conv => lhs; rw [← List.take_append_drop i l]
        rw [List.idxOf_append, if_neg hn, drop_cons l i 0 (by omega), ← e, List.idxOf_cons_self, List.length_take]
        omega
      rw [if_pos (by rw [e]; exact hm), hx]
      exact Ev_now fun k => by
        simp only [slices_Index_int_int.l0]
        rw [if_pos (by omega), if_pos (by omega), if_pos (by omega), if_pos (by rw [rd_nat]; exact e)]
    · refine Ev_to (ih (i + 1) (by omega) ?_) fun k => ?_
      · rw [take_succ_getD l i 0 (by omega)]
        simp only [List.mem_append, List.mem_singleton, not_or]
        exact ⟨hn, e⟩
      · simp only [slices_Index_int_int.l0]
        rw [if_pos (by omega), if_pos (by omega), if_pos (by omega), if_neg (by rw [rd_nat]; exact e), w_succ i (by omega)]
theorem index (l : List Int) (hb : l.length < 1000000) (v : Int) : Ev (fun k => slices_Index_int_int.f k l v) (if v ∈ l then (l.idxOf v : Int) else -1) := index_l l hb v l.length 0 (by omega) (by simp)
/-- Codes, and a nought at the end alone. -/
structure Txt (l : List Int) : Prop where
  rng : ∀ x ∈ l, 0 ≤ x ∧ x < 65536
  last : ∀ i : Nat, i < l.length → (l.getD i 0 = 0 ↔ i + 1 = l.length)
  pos : 0 < l.length
def chk (l : List Int) : Int := if l.any badCode = true then 10 else if (if (0 : Int) ∈ l then (l.idxOf 0 : Int) else -1) = (l.length : Int) - 1 then (if l.length = 0 then 3 else 0) else 3
theorem txt_iff (l : List Int) : chk l = 0 ↔ Txt l := by
  unfold chk
  have hbad : l.any badCode = true ↔ ¬ ∀ x ∈ l, 0 ≤ x ∧ x < 65536 := by
    rw [List.any_eq_true]
    constructor
    · rintro ⟨x, hx, hb⟩ h
      have := h x hx
      unfold badCode at hb
      simp at hb
      omega
    · intro h
      refine Classical.byContradiction fun hn => h fun x hx => Classical.byContradiction fun h2 => hn ⟨x, hx, ?_⟩
      unfold badCode
      simp
      omega
  by_cases h1 : l.any badCode = true
  · rw [if_pos h1]
    exact ⟨fun h => absurd h (by decide), fun h => absurd h.rng (hbad.1 h1)⟩
  · rw [if_neg h1]
    have hr : ∀ x ∈ l, 0 ≤ x ∧ x < 65536 := Classical.byContradiction fun h => h1 (hbad.2 h)
    by_cases h2 : (0 : Int) ∈ l
    · rw [if_pos h2]
      have hlt := List.idxOf_lt_length_iff.2 h2
      by_cases h3 : (l.idxOf (0 : Int) : Int) = (l.length : Int) - 1
      · rw [if_pos h3, if_neg (by omega)]
        refine ⟨fun _ => ⟨hr, fun i hi => ⟨fun e => ?_, fun e => ?_⟩, by omega⟩, fun _ => rfl⟩
        · refine Classical.byContradiction fun hne => ?_
          have hlt2 : i < l.idxOf (0 : Int) := by omega
          have := List.not_of_lt_findIdx (p := (· == (0 : Int))) (xs := l) hlt2
          rw [getD_lt l i 0 hi] at e
          simp [e] at this
        · have := idxOf_getD h2
          rwa [show l.idxOf (0 : Int) = i by omega] at this
      · rw [if_neg h3]
        refine ⟨fun h => absurd h (by decide), fun h => ?_⟩
        have := (h.last _ hlt).1 (idxOf_getD h2)
        omega
    · rw [if_neg h2]
      by_cases h3 : (-1 : Int) = (l.length : Int) - 1
      · rw [if_pos h3, if_pos (by omega)]
        exact ⟨fun h => absurd h (by decide), fun h => absurd h.pos (by omega)⟩
      · rw [if_neg h3]
        refine ⟨fun h => absurd h (by decide), fun h => absurd ?_ h2⟩
        have h4 := (h.last (l.length - 1) (by have := h.pos; omega)).2 (by have := h.pos; omega)
        rw [← h4]
        exact getD_mem l _ 0 (by have := h.pos; omega)
instance (l : List Int) : Decidable (Txt l) := decidable_of_iff _ (txt_iff l)
theorem inKs_true {l : List Int} (h : ∀ x ∈ l, (Lit.int .i64 x).wf = true) : inKs .i64 l = true := List.all_eq_true.2 h
theorem check (l : List Int) (hb : l.length ≤ 65536) (hw : ∀ x ∈ l, (Lit.int .i64 x).wf = true) : Ev (fun k => suffix_Check.f k l) (chk l) := by
  unfold suffix_Check.f
  simp only [if_neg (show ¬ 65536 < l.length by omega), if_pos (inKs_true hw)]
  unfold chk
  by_cases h1 : l.any badCode = true
  · simp only [if_pos h1]; exact Ev.now _
  · simp only [if_neg h1]
    refine Ev.bind (index l (by omega) 0) ?_
    by_cases h3 : (if (0 : Int) ∈ l then (l.idxOf 0 : Int) else -1) = (l.length : Int) - 1
    · simp only [if_pos h3]
      by_cases h0 : l.length = 0
      · simp only [if_pos h0]; exact Ev.now _
      · simp only [if_neg h0]; exact Ev.now _
    · simp only [if_neg h3]; exact Ev.now _

/-! ### how a suffix is against another one -/
/-! ### right -/
theorem good_nat {l : List Int} (h : Good l) (i : Nat) (hi : i < l.length) : ∃ a : Nat, l.getD i 0 = (a : Int) ∧ a < l.length := by
  have := h.2 _ (getD_mem l i 0 hi)
  exact ⟨(l.getD i 0).toNat, by omega, by omega⟩
theorem good_inj {l : List Int} (h : Good l) {i j : Nat} (hi : i < l.length) (hj : j < l.length) (e : l.getD i 0 = l.getD j 0) : i = j := by
  rw [getD_lt _ _ _ hi, getD_lt _ _ _ hj] at e
  have hp := List.pairwise_iff_getElem.1 h.1
  rcases Nat.lt_trichotomy i j with h1 | h1 | h1
  · exact absurd e (hp i j hi hj h1)
  · exact h1
  · exact absurd e.symm (hp j i hj hi h1)

theorem cmpS_step (x : List Int) (a b : Nat) (ha : a < x.length) (hb : b < x.length) : cmpS x a b = if x.getD a 0 < x.getD b 0 then -1 else if x.getD b 0 < x.getD a 0 then 1 else cmpS x (a + 1) (b + 1) := by
  unfold cmpS
  rw [drop_cons x a 0 ha, drop_cons x b 0 hb]
  rfl
theorem txt_eq {x : List Int} (hx : Txt x) {a b : Nat} (ha : a < x.length) (hb : b < x.length) (hne : a ≠ b) (h : x.getD a 0 = x.getD b 0) : a + 1 < x.length ∧ b + 1 < x.length := by
  have h1 := hx.last a ha
  have h2 := hx.last b hb
  constructor
  · refine Classical.byContradiction fun hn => ?_
    have e1 := h1.2 (by omega)
    have e2 := h2.1 (by omega)
    omega
  · refine Classical.byContradiction fun hn => ?_
    have e1 := h2.2 (by omega)
    have e2 := h1.1 (by omega)
    omega
theorem rises_idx {x : List Int} {o : List Nat} (h : Rises x o) {u v : Nat} (hu : u ∈ o) (hv : v ∈ o) (hc : cmpS x u v < 0) : o.idxOf u < o.idxOf v := by
  have h1 := List.idxOf_lt_length_iff.2 hu
  have h2 := List.idxOf_lt_length_iff.2 hv
  have e1 : o[o.idxOf u] = u := List.getElem_idxOf h1
  have e2 : o[o.idxOf v] = v := List.getElem_idxOf h2
  rcases Nat.lt_trichotomy (o.idxOf u) (o.idxOf v) with h3 | h3 | h3
  · exact h3
  · have : u = v := by rw [← e1, ← e2]; simp only [h3]
    rw [this, cmpS_self] at hc
    omega
  · have := List.pairwise_iff_getElem.1 h _ _ h2 h1 h3
    rw [e1, e2, cmpS_swap] at this
    omega
theorem idxOf_map_nat (o : List Nat) (v : Nat) : (o.map Int.ofNat).idxOf (v : Int) = o.idxOf v := by
  induction o with
  | nil => rfl
  | cons a t ih =>
    rw [List.map_cons, List.idxOf_cons, List.idxOf_cons, ih]
    by_cases h : a = v
    · subst h; simp
    · have h1 : (Int.ofNat a == (v : Int)) = false := by simp; omega
      have h2 : (a == v) = false := by simpa using h
      rw [h1, h2]
theorem sortS_good (x : List Int) : Good (sortS x) := by
  unfold sortS
  refine ⟨?_, fun z hz => ?_⟩
  · unfold List.Nodup
    rw [List.pairwise_map]
    have : (sortN x x.length).Nodup := (sortN_perm x x.length).nodup_iff.2 List.nodup_range
    exact this.imp fun h e => h (Int.ofNat.inj e)
  · obtain ⟨y, hy, rfl⟩ := List.mem_map.1 hz
    have := (sortN_mem x _ y).1 hy
    rw [List.length_map, sortN_len]
    constructor
    · exact Int.natCast_nonneg y
    · exact Int.ofNat_lt.2 this

theorem tm_range (a : Int) (s : Nat) (h0 : 0 < s) (h1 : s < 4611686018427387904) : 0 ≤ wrap64 (Int.tmod (IntKind.u64.wrap a) (IntKind.u64.wrap (s : Int))) ∧ wrap64 (Int.tmod (IntKind.u64.wrap a) (IntKind.u64.wrap (s : Int))) < s := by
  rw [IntKind.wrap_u64, IntKind.wrap_u64, Int.emod_eq_of_lt (a := (s : Int)) (by omega) (by omega), Int.tmod_eq_emod_of_nonneg (by omega)]
  have h2 := Int.emod_nonneg (a % 18446744073709551616) (b := (s : Int)) (by omega)
  have h3 := Int.emod_lt_of_pos (a % 18446744073709551616) (b := (s : Int)) (by omega)
  rw [w_id (by omega) (by omega)]
  exact ⟨h2, h3⟩
theorem txt_of (o : List Int) (h : ∀ z ∈ o, 1 ≤ z ∧ z ≤ 65535) : Txt (o ++ [0]) := by
  refine ⟨fun x hx => ?_, fun i hi => ?_, by simp⟩
  · rcases List.mem_append.1 hx with hx | hx
    · have := h x hx; omega
    · rw [List.mem_singleton] at hx; omega
  · rw [List.length_append, List.length_singleton] at hi ⊢
    by_cases e : i < o.length
    · have hg : (o ++ [0]).getD i 0 = o.getD i 0 := by simp [List.getD_eq_getElem?_getD, List.getElem?_append_left e]
      have := h _ (getD_mem o i 0 e)
      rw [hg]
      constructor <;> intro h2 <;> omega
    · have hg : (o ++ [0]).getD i 0 = 0 := by
        rw [show i = o.length by omega]
        simp [List.getD_eq_getElem?_getD]
      rw [hg]
      constructor
      · intro _; omega
      · intro _; rfl
theorem text_l (l : List Int) (s : Nat) (h0 : 0 < s) (h1 : s < 10) : ∀ d i : Nat, i + d = min l.length 120 → ∀ o : List Int, o.length = i → (∀ z ∈ o, 1 ≤ z ∧ z ≤ 65535) → ∃ x, Ev (fun k => incipitlaw15_Text.l0 k l (s : Int) o (i : Int)) x ∧ Txt x ∧ x.length ≤ 121 := by
  intro d
  induction d with
  | zero =>
    intro i hi o ho hz
    refine ⟨o ++ [0], Ev_now fun k => ?_, txt_of o hz, by simp; omega⟩
    simp only [incipitlaw15_Text.l0]
    by_cases h : i < l.length
    · rw [if_pos (by omega), if_neg (by omega), if_pos (by omega)]
    · rw [if_neg (by omega), if_pos (by omega)]
  | succ d ih =>
    intro i hi o ho hz
    have hr := tm_range (l.getD i 0) s h0 (by omega)
    generalize hv : wrap64 (Int.tmod (IntKind.u64.wrap (l.getD i 0)) (IntKind.u64.wrap (s : Int))) = v at hr
    obtain ⟨x, hx, hT, hL⟩ := ih (i + 1) (by omega) (o ++ [1 + v]) (by simp; omega) (fun z hz2 => by
      rcases List.mem_append.1 hz2 with h | h
      · exact hz z h
      · rw [List.mem_singleton] at h; omega)
    refine ⟨x, Ev_to hx fun k => ?_, hT, hL⟩
    simp only [incipitlaw15_Text.l0]
    rw [if_pos (by omega), if_pos (by omega), if_pos (by omega), if_neg (by rw [IntKind.wrap_u64]; omega), if_pos (by omega), rd_nat, hv, w_id (x := 1 + v) (by omega) (by omega), w_succ i (by omega)]
theorem text (l : List Int) (a : Int) : ∃ x, Ev (fun k => incipitlaw15_Text.f k l a) x ∧ Txt x ∧ x.length ≤ 121 := by
  have hr := tm_range a 9 (by decide) (by decide)
  have e9 : IntKind.u64.wrap ((9 : Nat) : Int) = 9 := by rw [IntKind.wrap_u64]; rfl
  rw [e9] at hr
  unfold incipitlaw15_Text.f
  generalize wrap64 (Int.tmod (IntKind.u64.wrap a) 9) = v at hr
  rw [w_id (x := 1 + v) (by omega) (by omega)]
  obtain ⟨s, hs⟩ := Int.eq_ofNat_of_zero_le (show 0 ≤ 1 + v by omega)
  rw [hs]
  exact text_l l s (by omega) (by omega) _ 0 (Nat.zero_add _) [] rfl (by simp)
theorem txt_wf {x : List Int} (h : Txt x) : ∀ z ∈ x, (Lit.int .i64 z).wf = true := fun z hz => by
  have := h.rng z hz
  exact (InK.of_i64 (x := z) (by omega) (by omega)).1

/-! ### how much is alike -/
def comL : List Int → List Int → Nat
  | a :: s, b :: t => if a = b then comL s t + 1 else 0
  | _, _ => 0
theorem comL_nil (s : List Int) : comL s [] = 0 := by cases s <;> rfl
theorem common_l (x : List Int) (a b : Nat) (hb : x.length < 1000000) (ha : a ≤ x.length) (hbl : b ≤ x.length) : ∀ d n : Nat, a + n + d = x.length → Ev (fun k => incipitref15_Common.l0 k x (a : Int) (b : Int) (n : Int)) ((n + comL (x.drop (a + n)) (x.drop (b + n)) : Nat) : Int) := by
  intro d
  induction d with
  | zero =>
    intro n hn
    rw [List.drop_of_length_le (i := a + n) (by omega)]
    exact Ev_now fun k => by
      simp only [incipitref15_Common.l0]
      rw [if_neg (by rw [w_id] <;> omega)]; simp [comL]
  | succ d ih =>
    intro n hn
    have ea : wrap64 ((a : Int) + n) = ((a + n : Nat) : Int) := by rw [w_id] <;> omega
    have eb : wrap64 ((b : Int) + n) = ((b + n : Nat) : Int) ∨ x.length ≤ b + n := by
      by_cases h : b + n < x.length
      · exact .inl (by rw [w_id] <;> omega)
      · exact .inr (by omega)
    have eb' : wrap64 ((b : Int) + n) = ((b + n : Nat) : Int) := by rw [w_id] <;> omega
    rw [drop_cons x (a + n) 0 (by omega)]
    by_cases h : b + n < x.length
    · rw [drop_cons x (b + n) 0 h]
      unfold comL
      by_cases e : x.getD (a + n) 0 = x.getD (b + n) 0
      · rw [if_pos e]
        have := ih (n + 1) (by omega)
        rw [show n + 1 + comL (x.drop (a + (n + 1))) (x.drop (b + (n + 1))) = n + (comL (x.drop (a + n + 1)) (x.drop (b + n + 1)) + 1) by rw [Nat.add_assoc a n 1, Nat.add_assoc b n 1]; omega] at this
        exact Ev_to this fun k => by
          simp only [incipitref15_Common.l0]
          rw [ea, eb', if_pos (by omega), if_pos (by omega), if_pos (by omega), if_pos (by omega), if_pos (by rw [rd_nat, rd_nat]; exact e), w_succ n (by omega)]
      · rw [if_neg e]
        exact Ev_now fun k => by
          simp only [incipitref15_Common.l0]
          rw [ea, eb', if_pos (by omega), if_pos (by omega), if_pos (by omega), if_pos (by omega), if_neg (by rw [rd_nat, rd_nat]; exact e)]; rfl
    · rw [List.drop_of_length_le (i := b + n) (by omega), comL_nil]
      exact Ev_now fun k => by
        simp only [incipitref15_Common.l0]
        rw [ea, eb', if_pos (by omega), if_neg (by omega)]; rfl
theorem common (x : List Int) (a b : Nat) (hb : x.length < 1000000) (ha : a ≤ x.length) (hbl : b ≤ x.length) : Ev (fun k => incipitref15_Common.f k x (a : Int) (b : Int)) (comL (x.drop a) (x.drop b) : Int) := by
  have := common_l x a b hb ha hbl (x.length - a) 0 (by omega)
  rw [Nat.zero_add, Nat.add_zero, Nat.add_zero] at this
  exact Ev_as this fun k => rfl
theorem com_spec {x : List Int} (hx : Txt x) : ∀ d a b : Nat, a < x.length → b < x.length → x.length - a ≤ d → a ≠ b →
    a + comL (x.drop a) (x.drop b) < x.length ∧ b + comL (x.drop a) (x.drop b) < x.length ∧ (cmpS x a b < 0 ↔ x.getD (a + comL (x.drop a) (x.drop b)) 0 < x.getD (b + comL (x.drop a) (x.drop b)) 0) := by
  intro d
  induction d with
  | zero => intro a b ha hb hd; omega
  | succ d ih =>
    intro a b ha hb hd hne
    rw [cmpS_step x a b ha hb, drop_cons x a 0 ha, drop_cons x b 0 hb]
    unfold comL
    by_cases e : x.getD a 0 = x.getD b 0
    · obtain ⟨h5, h6⟩ := txt_eq hx ha hb hne e
      obtain ⟨h1, h2, h3⟩ := ih (a + 1) (b + 1) h5 h6 (by omega) (by omega)
      rw [if_pos e, if_neg (by omega), if_neg (by omega)]
      rw [show a + (comL (x.drop (a + 1)) (x.drop (b + 1)) + 1) = a + 1 + comL (x.drop (a + 1)) (x.drop (b + 1)) by omega, show b + (comL (x.drop (a + 1)) (x.drop (b + 1)) + 1) = b + 1 + comL (x.drop (a + 1)) (x.drop (b + 1)) by omega]
      exact ⟨h1, h2, h3⟩
    · rw [if_neg e]
      refine ⟨by omega, by omega, ?_⟩
      simp only [Nat.add_zero]
      by_cases h1 : x.getD a 0 < x.getD b 0
      · rw [if_pos h1]; exact ⟨fun _ => h1, fun _ => by decide⟩
      · rw [if_neg h1, if_pos (by omega)]; exact ⟨fun h => absurd h (by decide), fun h => absurd h h1⟩
theorem refLess {x : List Int} (hx : Txt x) (hb : x.length < 1000000) (a b : Nat) (ha : a < x.length) (hbl : b < x.length) : Ev (fun k => incipitref15_Less.f k x (a : Int) (b : Int)) (decide (cmpS x a b < 0)) := by
  unfold incipitref15_Less.f
  refine Ev.bind (common x a b hb (by omega) (by omega)) ?_
  by_cases e : a = b
  · subst e
    simp only [if_true]
    rw [cmpS_self]
    exact Ev.now _
  · obtain ⟨h1, h2, h3⟩ := com_spec hx x.length a b ha hbl (by omega) e
    generalize comL (x.drop a) (x.drop b) = n at h1 h2 h3
    have ea : wrap64 ((a : Int) + n) = ((a + n : Nat) : Int) := by rw [w_id] <;> omega
    have eb : wrap64 ((b : Int) + n) = ((b + n : Nat) : Int) := by rw [w_id] <;> omega
    refine Ev_eq fun k => ?_
    rw [if_neg (by omega), ea, eb, if_pos (by omega), if_pos (by omega), if_pos (by omega), if_pos (by omega), rd_nat, rd_nat]
    exact congrArg some (decide_eq_decide.2 h3.symm)

/-! ### kinds -/
def kindS (x : List Int) (i : Nat) : Bool := decide (i + 1 = x.length) || decide (cmpS x i (i + 1) < 0)
def kindsL (x : List Int) : List Bool := (List.range x.length).map (kindS x)
theorem kindsL_len (x : List Int) : (kindsL x).length = x.length := by simp [kindsL]
theorem kindsL_get (x : List Int) (i : Nat) (h : i < x.length) : (kindsL x).getD i false = kindS x i := by simp [kindsL, List.getD_eq_getElem?_getD, h]
theorem kindS_step {x : List Int} (hx : Txt x) (i : Nat) (h : i + 1 < x.length) : kindS x i = (decide (x.getD i 0 < x.getD (i + 1) 0) || decide (x.getD i 0 = x.getD (i + 1) 0) && kindS x (i + 1)) := by
  unfold kindS
  rw [decide_eq_false (show ¬ i + 1 = x.length by omega), cmpS_step x i (i + 1) (by omega) h]
  by_cases h1 : x.getD i 0 < x.getD (i + 1) 0
  · rw [if_pos h1, decide_eq_true h1]; simp
  · rw [if_neg h1, decide_eq_false h1]
    by_cases h2 : x.getD i 0 = x.getD (i + 1) 0
    · obtain ⟨_, h4⟩ := txt_eq hx (by omega) h (by omega) h2
      rw [if_neg (by omega), decide_eq_true h2, decide_eq_false (show ¬ i + 1 + 1 = x.length by omega)]; simp
    · rw [if_pos (by omega), decide_eq_false h2]; simp
theorem kinds_l {x : List Int} (hx : Txt x) (hb : x.length < 1000000) : ∀ d i : Nat, i + d = x.length → kdL (x.drop i) = (kindsL x).drop i := by
  intro d
  induction d with
  | zero =>
    intro i hi
    rw [List.drop_of_length_le (by omega), List.drop_of_length_le (by rw [kindsL_len]; omega)]
    rfl
  | succ d ih =>
    intro i hi
    rw [drop_cons x i 0 (by omega), drop_cons (kindsL x) i false (by rw [kindsL_len]; omega), kindsL_get x i (by omega), kdL, ih (i + 1) (by omega)]
    congr 1
    by_cases h : i + 1 < x.length
    · rw [drop_cons x (i + 1) 0 h, kindS_step hx i h, drop_cons (kindsL x) (i + 1) false (by rw [kindsL_len]; exact h), kindsL_get x (i + 1) h]
      rfl
    · rw [List.drop_of_length_le (l := x) (by omega)]
      unfold kindS
      rw [decide_eq_true (show i + 1 = x.length by omega)]
      rfl
theorem kinds {x : List Int} (hx : Txt x) (hb : x.length ≤ 65536) : Ev (fun k => suffix_kinds.f x) (kindsL x) := by
  have h1 : inKs .i64 x = true ∧ x.length ≤ 65536 := ⟨inKs_true fun z hz => by have := hx.rng z hz; exact (InK.of_i64 (x := z) (by omega) (by omega)).1, hb⟩
  have h2 := kinds_l hx (by omega) x.length 0 (by omega)
  rw [List.drop_zero, List.drop_zero] at h2
  exact Ev_eq fun k => by unfold suffix_kinds.f; rw [if_pos h1, h2]
theorem kindsK (x : List Int) (hb : x.length ≤ 65536) (hw : ∀ z ∈ x, (Lit.int .i64 z).wf = true) : Ev (fun k => suffix_Kinds.f k x) (if Txt x then (kindsL x, 0) else ([], chk x)) := by
  unfold suffix_Kinds.f
  refine Ev.bind (check x hb hw) ?_
  by_cases hx : Txt x
  · rw [if_pos hx]
    simp only [if_pos ((txt_iff x).2 hx)]
    exact Ev.bind (kinds hx hb) (Ev.now _)
  · rw [if_neg hx]
    simp only [if_neg (fun h => hx ((txt_iff x).1 h))]
    exact Ev.now _

theorem refKinds_l {x : List Int} (hx : Txt x) (hb : x.length < 1000000) : ∀ d i : Nat, i + d = x.length → Ev (fun k => incipitref15_Kinds.l0 k x ((kindsL x).take i) (i : Int)) (kindsL x) := by
  intro d
  induction d with
  | zero =>
    intro i hi
    rw [List.take_of_length_le (by rw [kindsL_len]; omega)]
    exact Ev_now fun k => by simp only [incipitref15_Kinds.l0]; rw [if_neg (by omega)]
  | succ d ih =>
    intro i hi
    have hp := hx.pos
    have el : wrap64 ((x.length : Int) - 1) = ((x.length - 1 : Nat) : Int) := by rw [w_id] <;> omega
    have h := ih (i + 1) (by omega)
    rw [take_succ_getD _ i false (by rw [kindsL_len]; omega), kindsL_get x i (by omega)] at h
    have hlen : ((kindsL x).take i).length < 140737488355328 := by rw [List.length_take, kindsL_len]; omega
    by_cases e : i + 1 = x.length
    · refine Ev_to h fun k => ?_
      simp only [incipitref15_Kinds.l0]
      rw [if_pos (by omega), el, if_pos (by omega), if_pos hlen, w_succ i (by omega), show kindS x i = true by unfold kindS; rw [decide_eq_true e]; rfl]
    · have hl := refLess hx hb i (i + 1) (by omega) (by omega)
      have hk : kindS x i = decide (cmpS x i (i + 1) < 0) := by unfold kindS; rw [decide_eq_false e]; rfl
      rw [hk] at h
      refine Ev_to (f := fun k => (incipitref15_Less.f k x (i : Int) ((i + 1 : Nat) : Int)).bind fun t => (if ((kindsL x).take i).length < 140737488355328 then incipitref15_Kinds.l0 k x ((kindsL x).take i ++ [t]) ((i + 1 : Nat) : Int) else none)) (Ev.bind hl (by simp only [if_pos hlen]; exact h)) fun k => ?_
      simp only [incipitref15_Kinds.l0]
      rw [if_pos (by omega), el, if_neg (by omega), w_succ i (by omega)]
theorem refKinds {x : List Int} (hx : Txt x) (hb : x.length < 1000000) : Ev (fun k => incipitref15_Kinds.f k x) (kindsL x) := refKinds_l hx hb x.length 0 (by omega)

/-! ### the first ones -/
def firstAt (ks : List Bool) (i : Nat) : Bool := decide (1 ≤ i) && ks.getD i false && !ks.getD (i - 1) false
def firstsOf (ks : List Bool) (m : Nat) : List Int := ((List.range m).filter (firstAt ks)).map Int.ofNat
theorem firstsOf_succ (ks : List Bool) (m : Nat) : firstsOf ks (m + 1) = firstsOf ks m ++ (if firstAt ks m = true then [(m : Int)] else []) := by
  unfold firstsOf
  rw [List.range_succ, List.filter_append, List.map_append]
  by_cases h : firstAt ks m = true
  · simp [h]
  · simp [h]
theorem firstsOf_len (ks : List Bool) (m : Nat) : (firstsOf ks m).length ≤ m := by
  unfold firstsOf
  rw [List.length_map]
  have := List.length_filter_le (firstAt ks) (List.range m)
  rwa [List.length_range] at this
theorem firsts_l (ks : List Bool) (hb : ks.length < 1000000) : ∀ d i : Nat, i + d = ks.length → Ev (fun k => suffix_Firsts.l0 k ks (firstsOf ks i) (ks.length : Int) (i : Int)) (firstsOf ks ks.length, 0) := by
  intro d
  induction d with
  | zero =>
    intro i hi
    rw [show i = ks.length by omega]
    exact Ev_now fun k => by simp only [suffix_Firsts.l0]; rw [if_neg (by omega)]
  | succ d ih =>
    intro i hi
    have h := ih (i + 1) (by omega)
    rw [firstsOf_succ] at h
    have hlen := firstsOf_len ks i
    have hr : rdOf false ks (i : Int) = ks.getD i false := rfl
    refine Ev_to h fun k => ?_
    simp only [suffix_Firsts.l0]
    rw [if_pos (by omega), w_succ i (by omega)]
    by_cases h0 : i = 0
    · subst h0
      rw [if_pos (by omega), if_neg (by unfold firstAt; simp), List.append_nil]
    · have e1 : wrap64 ((i : Int) - 1) = ((i - 1 : Nat) : Int) := by rw [w_id] <;> omega
      have hr1 : rdOf false ks ((i - 1 : Nat) : Int) = ks.getD (i - 1) false := rfl
      rw [if_neg (by omega), if_pos (by omega), if_pos (by omega), hr, e1, hr1]
      unfold firstAt
      rw [decide_eq_true (show 1 ≤ i by omega)]
      cases hk : ks.getD i false with
      | false => simp
      | true =>
        rw [if_pos rfl, if_pos (by omega), if_pos (by omega)]
        cases hk1 : ks.getD (i - 1) false with
        | true => simp
        | false => rw [if_neg (by decide), if_pos (by omega)]; simp
def firstsL (x : List Int) : List Int := firstsOf (kindsL x) x.length
theorem firsts (x : List Int) (hb : x.length ≤ 65536) (hw : ∀ z ∈ x, (Lit.int .i64 z).wf = true) : Ev (fun k => suffix_Firsts.f k x) (if Txt x then (firstsL x, 0) else ([], chk x)) := by
  unfold suffix_Firsts.f
  refine Ev.bind (kindsK x hb hw) ?_
  by_cases h : Txt x
  · simp only [if_pos h, if_true]
    have := firsts_l (kindsL x) (by rw [kindsL_len]; omega) (kindsL x).length 0 (by omega)
    unfold firstsL
    rw [kindsL_len] at this ⊢
    exact this
  · simp only [if_neg h, if_neg (fun e => h ((txt_iff x).1 e))]
    exact Ev.now _
theorem refFirsts_l (ks : List Bool) (hb : ks.length < 1000000) : ∀ d i : Nat, i + d = ks.length → 1 ≤ i → Ev (fun k => incipitref15_Firsts.l0 k ks (firstsOf ks i) (i : Int)) (firstsOf ks ks.length) := by
  intro d
  induction d with
  | zero =>
    intro i hi h1
    rw [show i = ks.length by omega]
    exact Ev_now fun k => by simp only [incipitref15_Firsts.l0]; rw [if_neg (by omega)]
  | succ d ih =>
    intro i hi h1
    have h := ih (i + 1) (by omega) (by omega)
    rw [firstsOf_succ] at h
    have hlen := firstsOf_len ks i
    have hr : rdOf false ks (i : Int) = ks.getD i false := rfl
    have e1 : wrap64 ((i : Int) - 1) = ((i - 1 : Nat) : Int) := by rw [w_id] <;> omega
    have hr1 : rdOf false ks ((i - 1 : Nat) : Int) = ks.getD (i - 1) false := rfl
    refine Ev_to h fun k => ?_
    simp only [incipitref15_Firsts.l0]
    rw [if_pos (by omega), if_pos (by omega), w_succ i (by omega), hr, e1, hr1]
    unfold firstAt
    rw [decide_eq_true h1]
    cases hk : ks.getD i false with
    | false => simp
    | true =>
      rw [if_pos rfl, if_pos (by omega), if_pos (by omega)]
      cases hk1 : ks.getD (i - 1) false with
      | true => simp
      | false => rw [if_neg (by decide), if_pos (by omega)]; simp
theorem refFirsts {x : List Int} (hx : Txt x) (hb : x.length < 1000000) : Ev (fun k => incipitref15_Firsts.f k x) (firstsL x) := by
  unfold incipitref15_Firsts.f
  refine Ev.bind (refKinds hx hb) ?_
  have hp := hx.pos
  have := refFirsts_l (kindsL x) (by rw [kindsL_len]; omega) (x.length - 1) 1 (by rw [kindsL_len]; omega) (by omega)
  rw [kindsL_len] at this
  exact this


/-! ### a number in a rising row -/
theorem firstsL_lt (x : List Int) : (firstsL x).Pairwise (· < ·) := by
  unfold firstsL firstsOf
  rw [List.pairwise_map]
  exact (List.pairwise_lt_range.filter _).imp fun h => Int.ofNat_lt.2 h
theorem firstsL_mem {x : List Int} {z : Int} (h : z ∈ firstsL x) : ∃ a : Nat, z = (a : Int) ∧ a < x.length := by
  unfold firstsL firstsOf at h
  obtain ⟨a, ha, rfl⟩ := List.mem_map.1 h
  exact ⟨a, rfl, List.mem_range.1 (List.mem_filter.1 ha).1⟩
theorem firstsL_len (x : List Int) : (firstsL x).length ≤ x.length := firstsOf_len _ _
/-! ### the law -/

/-! ### the document's order -/
/-! ### how much is alike -/


theorem codes_of {x : List Int} (hx : Txt x) (hb : x.length ≤ 65536) : CodesP x := ⟨hx.pos, hb, fun y hy => by have := hx.rng y hy; omega⟩
theorem greatest_l (x : List Int) (hb : x.length < 1000000) : ∀ d i : Nat, i + d = x.length → ∀ n, Ev (fun k => incipitref16_Greatest.l0 k x n (i : Int)) ((x.drop i).foldl max n) := by
  intro d
  induction d with
  | zero =>
    intro i hi n
    rw [List.drop_of_length_le (by omega)]
    exact Ev_now fun k => by simp only [incipitref16_Greatest.l0]; rw [if_neg (by omega)]; rfl
  | succ d ih =>
    intro i hi n
    rw [drop_cons x i 0 (by omega), List.foldl_cons]
    exact Ev_to (ih (i + 1) (by omega) _) fun k => by
      simp only [incipitref16_Greatest.l0]
      rw [if_pos (by omega), if_pos (by omega), rd_nat, w_succ i (by omega), show mx n (x.getD i 0) = max n (x.getD i 0) by unfold mx; omega]
theorem greatest {x : List Int} (hx : Txt x) (hb : x.length ≤ 65536) : Ev (fun k => incipitref16_Greatest.f k x) (Lib.maxOf x) := by
  have := greatest_l x (by omega) x.length 0 (by omega) 0
  obtain ⟨h1, h2⟩ := maxOf_spec hx.pos
  obtain ⟨h3, h4, h5⟩ := fold_max x 0
  rw [List.drop_zero] at this
  have h6 := hx.rng _ h1
  have e : x.foldl max 0 = Lib.maxOf x := by
    have h7 := h4 _ h1
    rcases h5 with h5 | h5
    · omega
    · have := h2 _ h5
      omega
  rw [e] at this
  exact this
theorem bucket_l (x : List Int) (hb : x.length < 1000000) (c : Int) : ∀ d i : Nat, i + d = x.length → Ev (fun k => incipitref16_Bucket.l0 k x c (hdC (x.take i) c : Int) (cntC (x.take i) c : Int) (i : Int)) ((hdC x c : Int), (hdC x (c + 1) : Int)) := by
  intro d
  induction d with
  | zero =>
    intro i hi
    have h1 := hdC_le x c
    have h2 := cntC_le x c
    rw [List.take_of_length_le (by omega), hdC_succ]
    exact Ev_now fun k => by
      simp only [incipitref16_Bucket.l0]
      rw [if_neg (by omega), w_id (by omega) (by omega)]
      simp
  | succ d ih =>
    intro i hi
    have h1 := hdC_le (x.take i) c
    have h2 := cntC_le (x.take i) c
    rw [List.length_take] at h1 h2
    have e1 : hdC (x.take (i + 1)) c = hdC (x.take i) c + if x.getD i 0 < c then 1 else 0 := by
      unfold hdC
      rw [take_succ_getD x i 0 (by omega), List.filter_append, List.length_append]
      congr 1
      generalize x.getD i 0 = z
      by_cases h : z < c
      · simp [h]
      · simp [h]
    have e2 : cntC (x.take (i + 1)) c = cntC (x.take i) c + if x.getD i 0 = c then 1 else 0 := by
      unfold cntC
      rw [take_succ_getD x i 0 (by omega), List.filter_append, List.length_append]
      congr 1
      generalize x.getD i 0 = z
      by_cases h : z = c
      · simp [h]
      · simp [h]
    have := ih (i + 1) (by omega)
    rw [e1, e2] at this
    refine Ev_to this fun k => ?_
    simp only [incipitref16_Bucket.l0]
    rw [if_pos (by omega), if_pos (by omega), rd_nat, w_succ i (by omega), w_succ (hdC (x.take i) c) (by omega), w_succ (cntC (x.take i) c) (by omega)]
    by_cases g1 : x.getD i 0 < c
    · rw [if_pos g1, if_pos g1, if_neg (by omega), if_neg (by omega)]; rfl
    · rw [if_neg g1, if_neg g1]
      by_cases g2 : x.getD i 0 = c
      · rw [if_pos g2, if_pos g2]; rfl
      · rw [if_neg g2, if_neg g2]; rfl
theorem bucket (x : List Int) (hb : x.length < 1000000) (c : Int) : Ev (fun k => incipitref16_Bucket.f k x c) ((hdC x c : Int), (hdC x (c + 1) : Int)) := bucket_l x hb c x.length 0 (by omega)


theorem tx_of {x : List Int} (hx : Txt x) : Ind.Tx x := ⟨hx.pos, (hx.last _ (by have := hx.pos; omega)).2 (by have := hx.pos; omega), fun i hi => by
  have h1 := hx.rng _ (getD_mem x i 0 (by omega))
  have h2 := hx.last i (by omega)
  omega⟩
/-- The first Ss' places. -/
def firstsN (x : List Int) : List Nat := (List.range x.length).filter (firstAt (kindsL x))
theorem firstsN_I (x : List Int) : firstsL x = (firstsN x).map Int.ofNat := rfl
theorem firstAt_lms (x : List Int) (i : Nat) (h : i < x.length) : firstAt (kindsL x) i = Ind.lms x i := by
  unfold firstAt Ind.lms
  rw [kindsL_get x i h, kindsL_get x (i - 1) (by omega)]
  rfl
theorem mem_firstsN (x : List Int) (i : Nat) : i ∈ firstsN x ↔ i < x.length ∧ Ind.lms x i = true := by
  unfold firstsN
  rw [List.mem_filter, List.mem_range]
  constructor
  · rintro ⟨h1, h2⟩; exact ⟨h1, by rw [← firstAt_lms x i h1]; exact h2⟩
  · rintro ⟨h1, h2⟩; exact ⟨h1, by rw [firstAt_lms x i h1]; exact h2⟩
theorem firstsN_lt (x : List Int) : (firstsN x).Pairwise (· < ·) := List.Pairwise.filter _ List.pairwise_lt_range
theorem firsts_ok (x : List Int) : Ind.Firsts x (firstsN x) := ⟨firstsN_lt x, mem_firstsN x⟩
theorem mem_firstsL (x : List Int) (i : Nat) : (i : Int) ∈ firstsL x ↔ i < x.length ∧ Ind.lms x i = true := by
  rw [firstsN_I, ← mem_firstsN]
  constructor
  · intro h
    obtain ⟨j, hj, e⟩ := List.mem_map.1 h
    have : j = i := by have : (j : Int) = (i : Int) := e; omega
    exact this ▸ hj
  · intro h; exact List.mem_map.2 ⟨i, h, rfl⟩
theorem firstsL_nodup (x : List Int) : (firstsL x).Nodup := by
  rw [List.nodup_iff_pairwise_ne]
  exact (firstsL_lt x).imp fun h => by omega
theorem fsP_of {x l : List Int} (hx : Txt x) (hb : x.length ≤ 65536) (h2 : 2 ≤ x.length) (hp : l.Perm (firstsL x)) : FsP x l := by
  have hlen := firstsL_len x
  have hpl := hp.length_eq
  refine ⟨by omega, fun e => ?_, hp.nodup_iff.2 (firstsL_nodup x), fun z hz => ?_, fun i _ hi => ?_⟩
  · have := (Ind.Firsts.last (tx_of hx) h2 (firsts_ok x)).1
    rw [e] at hpl
    rw [firstsN_I, List.length_map] at hpl
    simp at hpl
    omega
  · obtain ⟨a, rfl, ha⟩ := firstsL_mem (hp.mem_iff.1 hz)
    have := (mem_firstsL x a).1 (hp.mem_iff.1 hz)
    exact ⟨by omega, by simpa using ha, by simpa using this.2⟩
  · exact hp.mem_iff.2 ((mem_firstsL x i).2 ⟨by have := List.mem_range.1 ‹_›; exact this, hi⟩)
/-- The order that comes of first Ss. -/
def indL (x l : List Int) : List Int := if x.length = 1 then [0] else Ind.ind x (l.map Int.toNat)
theorem induced {x l : List Int} (hx : Txt x) (hb : x.length ≤ 65536) (hp : l.Perm (firstsL x)) : Ev (fun k => induce_induced.f k x l) (indL x l) := by
  unfold induce_induced.f indL
  by_cases h1 : x.length = 1
  · simp only [if_pos h1]
    exact Ev.now _
  · have h2 : 2 ≤ x.length := by have := hx.pos; omega
    simp only [if_neg h1]
    refine Ev.bind (kindsK x hb (txt_wf hx)) ?_
    rw [if_pos hx]
    have hpre : IndPre x l (kindsL x) 0 := ⟨h2, codes_of hx hb, ⟨(tx_of hx).last, fun i _ hi => (tx_of hx).mid i hi⟩, fsP_of hx hb h2 hp, rfl, rfl⟩
    simp only [if_pos hpre]
    exact Ev.now _
theorem firstsL_wf (x : List Int) (hb : x.length ≤ 65536) : ∀ z ∈ firstsL x, (Lit.int .i64 z).wf = true := fun z hz => by
  obtain ⟨a, rfl, ha⟩ := firstsL_mem hz
  exact (InK.of_i64 (x := (a : Int)) (by omega) (by omega)).1
theorem induce {x l : List Int} (hx : Txt x) (hb : x.length ≤ 65536) (hp : l.Perm (firstsL x)) : Ev (fun k => induce_Induce.f k x l) (indL x l, 0) := by
  have hlen := firstsL_len x
  have hpl := hp.length_eq
  unfold induce_Induce.f
  rw [show (fun k => _) = _ from rfl]
  simp only [if_pos (show inKs .i64 x = true ∧ inKs .i64 l = true ∧ l.length ≤ 65536 from ⟨inKs_true (txt_wf hx), inKs_true fun z hz => firstsL_wf x hb z (hp.mem_iff.1 hz), by omega⟩)]
  refine Ev.bind (firsts x hb (txt_wf hx)) ?_
  rw [if_pos hx]
  simp only [if_true, if_pos (show inKs .i64 (firstsL x) = true ∧ (firstsL x).Pairwise (· ≤ ·) from ⟨inKs_true (firstsL_wf x hb), (firstsL_lt x).imp fun h => by omega⟩), if_pos (List.isPerm_iff.2 hp)]
  exact Ev.bind (induced hx hb hp) (Ev.now _)


/-- Those of a list that stand in another one. -/
def sel (F S : List Int) : List Int := S.filter fun z => decide (z ∈ F)
theorem mem_sortS (x : List Int) (z : Int) : z ∈ sortS x ↔ ∃ i : Nat, z = (i : Int) ∧ i < x.length := by
  unfold sortS
  rw [List.mem_map]
  constructor
  · rintro ⟨i, hi, rfl⟩
    exact ⟨i, rfl, List.mem_range.1 ((sortN_perm x x.length).mem_iff.1 hi)⟩
  · rintro ⟨i, rfl, hi⟩
    exact ⟨i, (sortN_perm x x.length).mem_iff.2 (List.mem_range.2 hi), rfl⟩
theorem sortS_nodup (x : List Int) : (sortS x).Nodup := by
  have := (sortN_perm x x.length).nodup_iff.2 List.nodup_range
  rw [List.nodup_iff_pairwise_ne] at this ⊢
  unfold sortS
  rw [List.pairwise_map]
  exact this.imp fun hne e => hne (Int.ofNat.inj e)
theorem sel_perm (x : List Int) : (sel (firstsL x) (sortS x)).Perm (firstsL x) := by
  refine (List.perm_ext_iff_of_nodup ((sortS_nodup x).filter _) (firstsL_nodup x)).2 fun z => ?_
  show z ∈ List.filter _ _ ↔ _
  rw [List.mem_filter, mem_sortS]
  constructor
  · rintro ⟨_, h⟩; simpa using h
  · intro h
    obtain ⟨a, rfl, ha⟩ := firstsL_mem h
    exact ⟨⟨a, rfl, ha⟩, by simpa using h⟩
theorem sel_ind {x : List Int} (hx : Txt x) (hb : x.length ≤ 65536) : indL x (sel (firstsL x) (sortS x)) = sortS x := by
  unfold indL
  by_cases h1 : x.length = 1
  · rw [if_pos h1]
    have h2 := sortS_len x
    rw [h1] at h2
    obtain ⟨z, hz⟩ := List.length_eq_one_iff.1 h2
    have h3 : z ∈ sortS x := by rw [hz]; simp
    obtain ⟨i, rfl, hi⟩ := (mem_sortS x z).1 h3
    rw [hz, show i = 0 by omega]
    rfl
  · rw [if_neg h1]
    have h2 : 2 ≤ x.length := by have := hx.pos; omega
    have hfs := fsP_of hx hb h2 (sel_perm x)
    refine Ind.ind_sorted (tx_of hx) h2 hfs.mem ?_
    unfold sel sortS
    rw [List.filter_map, List.map_map]
    rw [List.map_congr_left (g := id) fun i _ => by simp, List.map_id]
    exact List.Pairwise.filter _ (sortN_rises x x.length (Nat.le_refl _))

theorem pcIx_get {f : List Nat} (hU : f.Pairwise (· < ·)) (b : Nat) (hb : b < f.length) : pcIx f (f.getD b 0 : Int) = some b := by
  cases h : pcIx f (f.getD b 0 : Int) with
  | none =>
    exact absurd rfl (pcIx_none h (f.getD b 0) (by rw [List.getD_eq_getElem?_getD, List.getElem?_eq_getElem hb]; exact List.getElem_mem hb))
  | some a =>
    obtain ⟨ha, e⟩ := pcIx_some h
    have e : f.getD a 0 = f.getD b 0 := by omega
    congr 1
    rcases Nat.lt_trichotomy a b with h1 | h1 | h1
    · have := List.pairwise_iff_getElem.1 hU a b ha hb h1
      simp [List.getD_eq_getElem?_getD, ha, hb] at e
      omega
    · exact h1
    · have := List.pairwise_iff_getElem.1 hU b a hb ha h1
      simp [List.getD_eq_getElem?_getD, ha, hb] at e
      omega
/-- The first Ss along an order, by their numbers. -/
def ixs (f : List Nat) (o : List Int) : List Nat := o.filterMap (pcIx f)
theorem ixs_lt {f : List Nat} {o : List Int} : ∀ a ∈ ixs f o, a < f.length := fun a ha => by
  obtain ⟨z, _, h⟩ := List.mem_filterMap.1 ha
  exact (pcIx_some h).1
theorem go_keys (x : List Int) (f : List Nat) (q : List Nat) (m : Nat) (p : Option Nat) : ∀ e ∈ Ind.nameGo x f q m p, e.1 ∈ q := fun e he => by
  rw [← Ind.nameGo_fst x f q m p]
  exact List.mem_map.2 ⟨e, he, rfl⟩
/-- Names on the way, and where the row of names stands. -/
def NmRel (x : List Int) (f : List Nat) (s : NmS) (m : Nat) : Option Nat → Prop
  | none => s.n = 0 ∧ m = 0
  | some b => s.n = m + 1 ∧ s.ahead = Ind.pieceN x f b
theorem nm_go (x : List Int) (f : List Nat) : ∀ (o : List Int) (s : NmS) (m : Nat) (p : Option Nat), NmRel x f s m p → (ixs f o).Nodup →
    (∀ e ∈ Ind.nameGo x f (ixs f o) m p, (o.foldl (nmStep x f) s).nm (f.getD e.1 0 : Int) = some (e.2 : Int)) ∧ (∀ y, (∀ a ∈ ixs f o, (f.getD a 0 : Int) ≠ y) → (o.foldl (nmStep x f) s).nm y = s.nm y)
  | [], s, m, p, _, _ => ⟨fun e he => by simp [ixs, Ind.nameGo] at he, fun y _ => rfl⟩
  | z :: o, s, m, p, hr, hn => by
    rw [List.foldl_cons]
    cases hix : pcIx f z with
    | none =>
      have e1 : ixs f (z :: o) = ixs f o := by unfold ixs; rw [List.filterMap_cons, hix]
      have e2 : nmStep x f s z = s := by unfold nmStep; rw [hix]
      rw [e1] at hn ⊢
      rw [e2]
      exact nm_go x f o s m p hr hn
    | some k =>
      obtain ⟨hk, hz⟩ := pcIx_some hix
      have e1 : ixs f (z :: o) = k :: ixs f o := by unfold ixs; rw [List.filterMap_cons, hix]
      rw [e1] at hn ⊢
      obtain ⟨hn1, hn2⟩ := List.nodup_cons.1 hn
      have e2 : nmStep x f s z = ⟨if s.n = 0 ∨ Ind.pieceN x f k ≠ s.ahead then s.n + 1 else s.n, Ind.pieceN x f k, fun y => if y = z then some (((if s.n = 0 ∨ Ind.pieceN x f k ≠ s.ahead then s.n + 1 else s.n : Nat) : Int) - 1) else s.nm y⟩ := by unfold nmStep; rw [hix]
      -- the name that comes
      have main : ∀ m', (if s.n = 0 ∨ Ind.pieceN x f k ≠ s.ahead then s.n + 1 else s.n) = m' + 1 → Ind.nameGo x f (k :: ixs f o) m p = (k, m') :: Ind.nameGo x f (ixs f o) m' (some k) →
          (∀ e ∈ Ind.nameGo x f (k :: ixs f o) m p, (o.foldl (nmStep x f) (nmStep x f s z)).nm (f.getD e.1 0 : Int) = some (e.2 : Int)) ∧ (∀ y, (∀ a ∈ k :: ixs f o, (f.getD a 0 : Int) ≠ y) → (o.foldl (nmStep x f) (nmStep x f s z)).nm y = s.nm y) := by
        intro m' hm' hg
        rw [e2, hm']
        obtain ⟨i1, i2⟩ := nm_go x f o ⟨m' + 1, Ind.pieceN x f k, fun y => if y = z then some (((m' + 1 : Nat) : Int) - 1) else s.nm y⟩ m' (some k) ⟨rfl, rfl⟩ hn2
        rw [hg]
        constructor
        · intro e he
          rcases List.mem_cons.1 he with rfl | he
          · rw [i2 _ fun a ha e3 => ?_]
            · show (if (f.getD k 0 : Int) = z then _ else _) = _
              rw [if_pos hz]
              simp
            · have ha1 := ixs_lt a ha
              have e3 : (f.getD a 0 : Int) = (f.getD k 0 : Int) := e3
              have e3 : f.getD a 0 = f.getD k 0 := by omega
              refine hn1 ?_
              have e4 : pcIx f (f.getD a 0 : Int) = pcIx f (f.getD k 0 : Int) := by rw [e3]
              obtain ⟨z2, hz2, h2⟩ := List.mem_filterMap.1 ha
              have hz3 := (pcIx_some h2).2
              rw [e3, hz] at hz3
              rw [← hz3, hix] at h2
              cases h2
              exact ha
          · exact i1 e he
        · intro y hy
          rw [i2 y fun a ha => hy a (List.mem_cons_of_mem _ ha)]
          show (if y = z then _ else _) = _
          rw [if_neg (fun e => hy k (by simp) (by rw [hz, e]))]
      cases p with
      | none =>
        obtain ⟨h0, rfl⟩ := hr
        exact main 0 (by rw [if_pos (.inl h0)]; omega) rfl
      | some b =>
        obtain ⟨h0, h1⟩ := hr
        by_cases hp : Ind.pieceN x f k = Ind.pieceN x f b
        · exact main m (by rw [if_neg (by rw [h1]; rintro (h | h); omega; exact h hp)]; exact h0) (by rw [Ind.nameGo, if_pos hp])
        · exact main (m + 1) (by rw [if_pos (.inr (by rw [h1]; exact hp))]; omega) (by rw [Ind.nameGo, if_neg hp])

/-- The first Ss along the order that is induced of first Ss. -/
theorem ixs_ind {x : List Int} (hx : Ind.Tx x) (h2 : 2 ≤ x.length) {f firsts : List Nat} (hf : Ind.Firsts x f) (hn : firsts.Nodup) (hm : ∀ i, i ∈ firsts ↔ i < x.length ∧ Ind.lms x i = true) :
    (ixs f (Ind.ind x firsts)).Perm (List.range f.length) ∧ (ixs f (Ind.ind x firsts)).Pairwise (fun b c => ¬ Ind.cmpL (Ind.pieceN x f c) (Ind.pieceN x f b) < 0) := by
  obtain ⟨l, hl, hp, hs⟩ := Ind.order_list (Ind.ind_ok hx h2 hn hm)
  have hU := hf.up
  have hpw : (ixs f (Ind.ind x firsts)).Pairwise fun b c => Ind.slot (Ind.ind x firsts) (f.getD b 0) < Ind.slot (Ind.ind x firsts) (f.getD c 0) := by
    unfold ixs
    rw [hl, List.filterMap_map, List.pairwise_filterMap, ← hl]
    refine hs.imp fun {i j} hij b hb c hc => ?_
    have h3 := (pcIx_some (show pcIx f (Int.ofNat i) = some b from hb)).2
    have h4 := (pcIx_some (show pcIx f (Int.ofNat j) = some c from hc)).2
    have e3 : f.getD b 0 = i := by have : ((f.getD b 0 : Nat) : Int) = (i : Int) := h3; omega
    have e4 : f.getD c 0 = j := by have : ((f.getD c 0 : Nat) : Int) = (j : Int) := h4; omega
    rw [e3, e4]
    exact hij
  constructor
  · refine (List.perm_ext_iff_of_nodup ?_ List.nodup_range).2 fun a => ?_
    · rw [List.nodup_iff_pairwise_ne]
      exact hpw.imp fun h e => by rw [e] at h; omega
    · rw [List.mem_range]
      constructor
      · exact ixs_lt a
      · intro ha
        refine List.mem_filterMap.2 ⟨(f.getD a 0 : Int), ?_, pcIx_get hU a ha⟩
        rw [hl]
        exact List.mem_map.2 ⟨f.getD a 0, hp.mem_iff.2 (List.mem_range.2 (hf.get ha).1), rfl⟩
  · have hlt := @ixs_lt f (Ind.ind x firsts)
    refine hpw.imp_of_mem fun {b c} hb hc hbc hcm => ?_
    have hb' := hlt b hb
    have hc' := hlt c hc
    have := Ind.ind_pieces hx h2 hn hm (hf.get hc').1 (hf.get hb').1 (by rw [Ind.zc_piece hx h2 hf hc' hb']; exact hcm)
    omega
/-- The names by places. -/
def nmsL (x : List Int) (f : List Nat) (o : List Int) : List Int := f.map fun (i : Nat) => ((nmAll x f o).nm (i : Int)).getD 0
theorem nmsL_len (x : List Int) (f : List Nat) (o : List Int) : (nmsL x f o).length = f.length := by simp [nmsL]
theorem nmsL_named {x : List Int} (hx : Ind.Tx x) (h2 : 2 ≤ x.length) {f firsts : List Nat} (hf : Ind.Firsts x f) (hn : firsts.Nodup) (hm : ∀ i, i ∈ firsts ↔ i < x.length ∧ Ind.lms x i = true) : Ind.Named x f (nmsL x f (Ind.ind x firsts)) := by
  obtain ⟨hp, hr⟩ := ixs_ind hx h2 hf hn hm
  have hnd := hp.nodup_iff.2 List.nodup_range
  refine Ind.names_ok hx h2 hf hp hr (nmsL_len _ _ _) fun e he => ?_
  have h3 := (nm_go x f (Ind.ind x firsts) ⟨0, [], fun _ => none⟩ 0 none ⟨rfl, rfl⟩ hnd).1 e he
  have h4 := ixs_lt e.1 (go_keys x f _ 0 none e he)
  unfold nmsL
  rw [List.getD_eq_getElem?_getD, List.getElem?_map, List.getElem?_eq_getElem h4, Option.map_some, Option.getD_some]
  have h5 : f.getD e.1 0 = f[e.1] := by rw [List.getD_eq_getElem?_getD, List.getElem?_eq_getElem h4]; rfl
  rw [h5] at h3
  show ((nmAll x f (Ind.ind x firsts)).nm (f[e.1] : Int)).getD 0 = _
  unfold nmAll
  rw [h3]
  rfl
theorem nmsL_rng (x : List Int) (f : List Nat) (o : List Int) (hl : o.length ≤ 65535) : ∀ z ∈ nmsL x f o, 0 ≤ z ∧ z < 65536 := fun z hz => by
  obtain ⟨i, _, rfl⟩ := List.mem_map.1 hz
  have := nmAll_rng x f o o.length (Nat.le_refl _)
  rw [List.take_length] at this
  cases h : (nmAll x f o).nm (i : Int) with
  | none => simp
  | some v =>
    have := this _ _ h
    simp only [Option.getD_some]
    omega


theorem firstsL_nat (x : List Int) : (firstsL x).map Int.toNat = firstsN x := by
  rw [firstsN_I, List.map_map, List.map_congr_left (g := id) fun i _ => by simp, List.map_id]
theorem named {x : List Int} (hx : Txt x) (hb : x.length ≤ 65536) (o : List Int) (ho : ∀ z ∈ o, (Lit.int .i64 z).wf = true) (hol : o.length ≤ 65536) : Ev (fun k => induce_named.f k x o) (nmsL x (firstsN x) o, ((nmAll x (firstsN x) o).n : Int)) := by
  have hlen := firstsL_len x
  unfold induce_named.f
  refine Ev.bind (firsts x hb (txt_wf hx)) ?_
  rw [if_pos hx]
  have hok : induce_named.ok x o (firstsL x) 0 := ⟨codes_of hx hb, inKs_true ho, hol, rfl, firstsL_lt x, fun z hz => by obtain ⟨a, rfl, ha⟩ := firstsL_mem hz; omega, by omega⟩
  simp only [if_pos hok, firstsL_nat]
  exact Ev.now _
theorem indL_wf {x l : List Int} (hx : Txt x) (hb : x.length ≤ 65536) (hp : l.Perm (firstsL x)) : (indL x l).length = x.length ∧ ∀ z ∈ indL x l, 0 ≤ z ∧ z < (x.length : Int) := by
  unfold indL
  by_cases h1 : x.length = 1
  · rw [if_pos h1]
    exact ⟨by rw [h1]; rfl, fun z hz => by rw [List.mem_singleton.1 hz]; omega⟩
  · rw [if_neg h1]
    have h2 : 2 ≤ x.length := by have := hx.pos; omega
    have hfs := fsP_of hx hb h2 hp
    have hok := Ind.ind_ok (tx_of hx) h2 hfs.nodup hfs.mem
    refine ⟨hok.len, fun z hz => ?_⟩
    obtain ⟨s, hs, rfl⟩ := List.mem_iff_getElem.1 hz
    rw [hok.len] at hs
    obtain ⟨i, hi, e1, _⟩ := hok.all s hs
    have : (Ind.ind x (l.map Int.toNat))[s] = (i : Int) := by
      rw [← e1, List.getD_eq_getElem?_getD, List.getElem?_eq_getElem (by rw [hok.len]; exact hs)]
      rfl
    rw [this]
    omega
theorem reduced {x : List Int} (hx : Txt x) (hb : x.length ≤ 65536) : Ev (fun k => induce_Reduced.f k x) (nmsL x (firstsN x) (indL x (firstsL x)), 0) := by
  have hp := List.Perm.refl (firstsL x)
  obtain ⟨h1, h2⟩ := indL_wf hx hb hp
  unfold induce_Reduced.f
  refine Ev.bind (firsts x hb (txt_wf hx)) ?_
  rw [if_pos hx]
  simp only [if_true]
  refine Ev.bind (induced hx hb hp) ?_
  refine Ev.bind (named hx hb _ (fun z hz => by have := h2 z hz; exact (InK.of_i64 (x := z) (by omega) (by omega)).1) (by omega)) ?_
  exact Ev.now _
theorem back_l0 (f o : List Int) (hg : Good o) (hl : o.length = f.length) (hb : o.length < 1000000) : ∀ d i : Nat, i + d = o.length → Ev (fun k => induce_Back.l0 k f ((o.take i).map fun z => f.getD z.toNat 0) o (o.length : Int) (i : Int)) (o.map fun z => f.getD z.toNat 0, 0) := by
  intro d
  induction d with
  | zero =>
    intro i hi
    rw [List.take_of_length_le (by omega)]
    exact Ev_now fun k => by simp only [induce_Back.l0]; rw [if_neg (by omega)]
  | succ d ih =>
    intro i hi
    have h1 := ih (i + 1) (by omega)
    rw [take_succ_getD o i 0 (by omega), List.map_append] at h1
    obtain ⟨a, ha, hal⟩ := good_nat hg i (by omega)
    rw [ha] at h1
    refine Ev_to h1 fun k => ?_
    simp only [induce_Back.l0]
    rw [if_pos (by omega), if_pos (by omega), if_pos (by omega), rd_nat, ha, if_pos (by omega), if_pos (by omega), if_pos (by rw [List.length_map, List.length_take]; omega), w_succ i (by omega), rd_nat]
    rfl
theorem back {x o : List Int} (hx : Txt x) (hb : x.length ≤ 65536) (hg : Good o) (hl : o.length = (firstsL x).length) : Ev (fun k => induce_Back.f k x o) (o.map fun z => (firstsL x).getD z.toNat 0, 0) := by
  have hlen := firstsL_len x
  unfold induce_Back.f
  refine Ev.bind (firsts x hb (txt_wf hx)) ?_
  rw [if_pos hx]
  simp only [if_true]
  refine Ev.bind (turned o (by omega)) ?_
  have ht : turnedR o = (outOf o.length o, 0) := by unfold turnedR; rw [if_pos hg]
  rw [ht]
  simp only [if_true]
  refine Ev_to (back_l0 (firstsL x) o hg hl (by omega) o.length 0 (by omega)) fun k => ?_
  simp only [induce_Back.j0]
  rw [if_neg (by simp [hl])]
  rfl
theorem txt_named {r : List Int} (ht : Ind.Tx r) (hr : ∀ z ∈ r, 0 ≤ z ∧ z < 65536) : Txt r := ⟨hr, fun i hi => by
  constructor
  · intro h0
    refine Classical.byContradiction fun hn => ?_
    have := ht.mid i (by omega)
    omega
  · intro h
    have := ht.last
    rw [show r.length - 1 = i by omega] at this
    exact this, ht.pos⟩
end Go.Proofs.Ytmmacpicbonhhaa.SalPure
