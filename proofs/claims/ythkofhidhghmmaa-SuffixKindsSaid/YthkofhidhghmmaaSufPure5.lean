/- Layer 15: the pure side: pieces; SuffixKinds. -/
import Derived.Test.YthkofhidhghmmaaSufPure4
import Derived.Test.YthkofhidhghmmaaPSufx8
namespace Go.Proofs.Ythkofhidhghmmaa.SufPure
open Go.RowKit Go.Proofs.Ythkofhidhghmmaa Go.Proofs.Ythkofhidhghmmaa.PSuf Go.Proofs.YthkofhidhghmmaaW.PrintWords Go.Proofs.YthkofhidhghmmaaW.PrintMore
set_option linter.unusedVariables false

theorem place_l (x ls : List Int) (hb : ls.length < 1000000) : ∀ d i : Nat, i + d = ls.length → Ev (fun k => suffix_place.l0 k x ls (ls.length : Int) (i : Int)) (if ∀ z ∈ ls.drop i, 0 ≤ z ∧ z < (x.length : Int) then 0 else 10) := by
  intro d
  induction d with
  | zero =>
    intro i hi
    rw [List.drop_of_length_le (by omega), if_pos (by simp)]
    exact Ev_now fun k => by simp only [suffix_place.l0]; rw [if_neg (by omega)]
  | succ d ih =>
    intro i hi
    rw [drop_cons ls i 0 (by omega)]
    by_cases h1 : ls.getD i 0 < 0
    · rw [if_neg (fun h => by have := h _ (List.mem_cons_self ..); omega)]
      exact Ev_now fun k => by simp only [suffix_place.l0]; rw [if_pos (by omega), if_pos (by omega), if_pos (by omega), rd_nat, if_pos h1]
    · by_cases h2 : (x.length : Int) ≤ ls.getD i 0
      · rw [if_neg (fun h => by have := h _ (List.mem_cons_self ..); omega)]
        exact Ev_now fun k => by simp only [suffix_place.l0]; rw [if_pos (by omega), if_pos (by omega), if_pos (by omega), rd_nat, if_neg h1, if_pos h2]
      · have h := ih (i + 1) (by omega)
        have e : (∀ z ∈ ls.getD i 0 :: ls.drop (i + 1), 0 ≤ z ∧ z < (x.length : Int)) ↔ ∀ z ∈ ls.drop (i + 1), 0 ≤ z ∧ z < (x.length : Int) := by
          constructor
          · exact fun h z hz => h z (List.mem_cons_of_mem _ hz)
          · intro h z hz
            rcases List.mem_cons.1 hz with rfl | hz
            · omega
            · exact h z hz
        simp only [e]
        exact Ev_to h fun k => by simp only [suffix_place.l0]; rw [if_pos (by omega), if_pos (by omega), if_pos (by omega), rd_nat, if_neg h1, if_neg (by omega), w_succ i (by omega)]
def inAll (x ls : List Int) : Prop := ∀ z ∈ ls, 0 ≤ z ∧ z < (x.length : Int)
instance (x ls : List Int) : Decidable (inAll x ls) := by unfold inAll; infer_instance
theorem place (x ls : List Int) (hb : x.length ≤ 65536) (hbl : ls.length < 1000000) (hw : ∀ z ∈ x, (Lit.int .i64 z).wf = true) : Ev (fun k => suffix_place.f k x ls) (if chk x = 0 then (if inAll x ls then 0 else 10) else chk x) := by
  unfold suffix_place.f
  refine Ev.bind (check x hb hw) ?_
  by_cases h : chk x = 0
  · simp only [if_pos h]
    exact place_l x ls hbl ls.length 0 (by omega)
  · simp only [if_neg h]; exact Ev.now _

/-! ### a number in a rising row -/
theorem lessI (a b : Int) : cmp_Less_int.f a b = some (decide (a < b)) := by
  unfold cmp_Less_int.f cmp_isNaN_int.f
  simp
theorem bin_l {f : List Int} (hf : f.Pairwise (· < ·)) (v : Int) (hb : f.length < 1000000) : ∀ d lo hi : Nat, hi - lo ≤ d → lo ≤ hi → hi ≤ f.length → (∀ j, j < lo → f.getD j 0 < v) → (∀ j, hi ≤ j → j < f.length → v ≤ f.getD j 0) →
    ∃ p : Int, Ev (fun k => slices_BinarySearch_int_int.l0 k f v (f.length : Int) (lo : Int) (hi : Int)) (p, decide (v ∈ f)) ∧ (v ∈ f → p = (f.idxOf v : Int)) := by
  intro d
  have hfin : ∀ lo : Nat, lo ≤ f.length → (∀ j, j < lo → f.getD j 0 < v) → (∀ j, lo ≤ j → j < f.length → v ≤ f.getD j 0) → ∀ hi : Nat, hi = lo →
      ∃ p : Int, Ev (fun k => slices_BinarySearch_int_int.l0 k f v (f.length : Int) (lo : Int) (hi : Int)) (p, decide (v ∈ f)) ∧ (v ∈ f → p = (f.idxOf v : Int)) := by
    intro lo hlo h1 h2 hi he
    subst he
    have hidx : v ∈ f → f.idxOf v = hi := fun hm => by
      have h3 := List.idxOf_lt_length_iff.2 hm
      have h4 := idxOf_getD hm
      rcases Nat.lt_trichotomy (f.idxOf v) hi with h5 | h5 | h5
      · have := h1 _ h5; omega
      · exact h5
      · have h6 := h2 hi (Nat.le_refl _) (by omega)
        have h7 := List.pairwise_iff_getElem.1 hf hi _ (by omega) h3 h5
        rw [getD_lt _ _ _ h3] at h4
        rw [getD_lt _ _ _ (by omega)] at h6
        omega
    refine ⟨hi, Ev_now fun k => ?_, fun hm => by rw [hidx hm]⟩
    simp only [slices_BinarySearch_int_int.l0]
    rw [if_neg (by omega)]
    by_cases h3 : hi < f.length
    · rw [if_pos (by omega), if_pos (by omega), if_pos (by omega), rd_nat]
      by_cases h4 : f.getD hi 0 = v
      · rw [if_pos h4, decide_eq_true (by rw [← h4]; exact getD_mem f hi 0 h3)]
      · rw [if_neg h4, decide_eq_false (fun hm => h4 (by rw [← hidx hm]; exact idxOf_getD hm))]
        unfold slices_isNaN_int.f
        simp
    · rw [if_neg (by omega), decide_eq_false (fun hm => h3 (by rw [← hidx hm]; exact List.idxOf_lt_length_iff.2 hm))]
  induction d with
  | zero => intro lo hi hd hle hl h1 h2; exact hfin lo (by omega) h1 (fun j hj hj2 => h2 j (by omega) hj2) hi (by omega)
  | succ d ih =>
    intro lo hi hd hle hl h1 h2
    by_cases he : hi = lo
    · exact hfin lo (by omega) h1 (fun j hj hj2 => h2 j (by omega) hj2) hi he
    · have em : wrap64 ((IntKind.u64.wrap (wrap64 ((lo : Int) + hi))) / 2) = (((lo + hi) / 2 : Nat) : Int) := by
        rw [w_id (x := (lo : Int) + hi) (by omega) (by omega), IntKind.wrap_u64, w_id] <;> omega
      generalize hm : (lo + hi) / 2 = m at em
      have hml : lo ≤ m := by omega
      have hmh : m < hi := by omega
      by_cases h3 : f.getD m 0 < v
      · obtain ⟨p, hp, hp2⟩ := ih (m + 1) hi (by omega) (by omega) hl (fun j hj => by
          by_cases e : j = m
          · rw [e]; exact h3
          · have := List.pairwise_iff_getElem.1 hf j m (by omega) (by omega) (by omega)
            rw [getD_lt _ _ _ (by omega)] at h3 ⊢
            omega) h2
        refine ⟨p, Ev_to hp fun k => ?_, hp2⟩
        simp only [slices_BinarySearch_int_int.l0]
        rw [if_pos (by omega), em, if_pos (by omega), if_pos (by omega), rd_nat, lessI, Option.bind_some, decide_eq_true h3, if_pos rfl, w_succ m (by omega)]
      · obtain ⟨p, hp, hp2⟩ := ih lo m (by omega) (by omega) (by omega) h1 (fun j hj hj2 => by
          by_cases e : j = m
          · rw [e]; omega
          · have := List.pairwise_iff_getElem.1 hf m j (by omega) (by omega) (by omega)
            rw [getD_lt _ _ _ (by omega)] at h3 ⊢
            omega)
        refine ⟨p, Ev_to hp fun k => ?_, hp2⟩
        simp only [slices_BinarySearch_int_int.l0]
        rw [if_pos (by omega), em, if_pos (by omega), if_pos (by omega), rd_nat, lessI, Option.bind_some, decide_eq_false h3, if_neg (by decide)]
theorem bin {f : List Int} (hf : f.Pairwise (· < ·)) (v : Int) (hb : f.length < 1000000) : ∃ p : Int, Ev (fun k => slices_BinarySearch_int_int.f k f v) (p, decide (v ∈ f)) ∧ (v ∈ f → p = (f.idxOf v : Int)) :=
  bin_l hf v hb f.length 0 f.length (by omega) (by omega) (Nat.le_refl _) (fun j hj => absurd hj (by omega)) (fun j hj hj2 => absurd hj2 (by omega))
theorem firstsL_lt (x : List Int) : (firstsL x).Pairwise (· < ·) := by
  unfold firstsL firstsOf
  rw [List.pairwise_map]
  exact (List.pairwise_lt_range.filter _).imp fun h => Int.ofNat_lt.2 h
theorem firstsL_mem {x : List Int} {z : Int} (h : z ∈ firstsL x) : ∃ a : Nat, z = (a : Int) ∧ a < x.length := by
  unfold firstsL firstsOf at h
  obtain ⟨a, ha, rfl⟩ := List.mem_map.1 h
  exact ⟨a, rfl, List.mem_range.1 (List.mem_filter.1 ha).1⟩
theorem firstsL_len (x : List Int) : (firstsL x).length ≤ x.length := firstsOf_len _ _
/-- The piece of a first S. -/
def pieceL (x : List Int) (at_ : Nat) : List Int :=
  if (firstsL x).idxOf (at_ : Int) + 1 = (firstsL x).length then x.drop at_ else (x.take (((firstsL x).getD ((firstsL x).idxOf (at_ : Int) + 1) 0).toNat + 1)).drop at_
theorem clone (l : List Int) (hw : ∀ z ∈ l, (Lit.int .i64 z).wf = true) (hb : l.length < 17592186044416) : slices_Clone_int_int.f l = some l := by
  unfold slices_Clone_int_int.f
  rw [if_pos (inKs_true hw), if_pos hb]
theorem piece {x : List Int} (hx : Txt x) (hb : x.length ≤ 65536) (a : Nat) (ha : a < x.length) : Ev (fun k => suffix_Piece.f k x (a : Int)) (if (a : Int) ∈ firstsL x then (pieceL x a, 0) else ([], 7)) := by
  have hw := txt_wf hx
  unfold suffix_Piece.f
  refine Ev.bind (place x [(a : Int)] hb (by rw [List.length_singleton]; omega) hw) ?_
  rw [if_pos ((txt_iff x).2 hx), if_pos (show inAll x [(a : Int)] from fun z hz => by rw [List.mem_singleton] at hz; omega)]
  simp only [if_true]
  refine Ev.bind (firsts x hb hw) ?_
  rw [if_pos hx]
  have hfl := firstsL_len x
  obtain ⟨p, hp, hp2⟩ := bin (firstsL_lt x) (a : Int) (by omega)
  refine Ev.bind hp ?_
  by_cases hm : (a : Int) ∈ firstsL x
  · have hi := List.idxOf_lt_length_iff.2 hm
    rw [hp2 hm, decide_eq_true hm, if_pos hm]
    have el : wrap64 (((firstsL x).length : Int) - 1) = (((firstsL x).length - 1 : Nat) : Int) := by rw [w_id] <;> omega
    simp only [if_true, el]
    unfold pieceL
    have hia := idxOf_getD hm
    generalize (firstsL x).idxOf (a : Int) = i at hi hia
    by_cases h1 : i + 1 = (firstsL x).length
    · rw [if_pos h1]
      refine Ev_eq fun k => ?_
      rw [if_pos (by omega), if_pos (by omega), if_pos (by omega), Int.toNat_natCast, clone _ (fun z hz => hw z (List.mem_of_mem_drop hz)) (by rw [List.length_drop]; omega), Option.bind_some]
    · rw [if_neg h1]
      obtain ⟨b, hb1, hb2⟩ := firstsL_mem (getD_mem (firstsL x) (i + 1) 0 (by omega))
      have hab : a < b := by
        have h5 := List.pairwise_iff_getElem.1 (firstsL_lt x) i (i + 1) hi (by omega) (by omega)
        rw [getD_lt _ _ _ (by omega)] at hia hb1
        omega
      rw [hb1, Int.toNat_natCast]
      refine Ev_eq fun k => ?_
      rw [if_neg (by omega), w_succ i (by omega), if_pos (by omega), if_pos (by omega), if_pos (by omega), rd_nat, hb1, w_succ b (by omega), if_pos (by omega), if_pos (by omega), Int.toNat_natCast, Int.toNat_natCast, clone _ (fun z hz => hw z (List.mem_of_mem_take (List.mem_of_mem_drop hz))) (by rw [List.length_drop, List.length_take]; omega), Option.bind_some]
  · rw [decide_eq_false hm, if_neg hm]
    simp only [if_neg (show ¬ false = true by decide)]
    exact Ev.now _

/-! ### the law -/
theorem kl1 {x : List Int} (hx : Txt x) (hb : x.length ≤ 65536) (a : Nat) (ha : a < x.length) (p : List Int) (g : Int) (hpg : (p, g) = if (a : Int) ∈ firstsL x then (pieceL x a, 0) else ([], 7)) :
    ∀ d i : Nat, i + d = (firstsL x).length → (a : Int) ∉ (firstsL x).take i → Ev (fun k => incipitlaw15_SuffixKinds.l1 k (a : Int) x (firstsL x) p g (i : Int)) true := by
  have hfl := firstsL_len x
  intro d
  induction d with
  | zero =>
    intro i hi hn
    rw [List.take_of_length_le (by omega)] at hn
    rw [if_neg hn] at hpg
    cases hpg
    refine Ev_to (f := fun k => (incipitlaw15_known.f k).bind fun t => (if t = true then some ((7 : Int) == 7) else some false)) (Ev.bind known (by simp only [if_true]; exact Ev.now _)) fun k => ?_
    simp only [incipitlaw15_SuffixKinds.l1]
    rw [if_neg (by omega)]
  | succ d ih =>
    intro i hi hn
    by_cases e : (firstsL x).getD i 0 = (a : Int)
    · have hm : (a : Int) ∈ firstsL x := by rw [← e]; exact getD_mem _ i 0 (by omega)
      have hidx : (firstsL x).idxOf (a : Int) = i := by
        conv => lhs; rw [← List.take_append_drop i (firstsL x)]
        rw [List.idxOf_append, if_neg hn, drop_cons (firstsL x) i 0 (by omega), e, List.idxOf_cons_self, List.length_take]
        omega
      rw [if_pos hm] at hpg
      unfold pieceL at hpg
      rw [hidx] at hpg
      by_cases h1 : i + 1 < (firstsL x).length
      · rw [if_neg (by omega)] at hpg
        obtain ⟨b, hb1, hb2⟩ := firstsL_mem (getD_mem (firstsL x) (i + 1) 0 h1)
        have hab : a < b := by
          have h5 := List.pairwise_iff_getElem.1 (firstsL_lt x) i (i + 1) (by omega) h1 (by omega)
          rw [getD_lt _ _ _ (by omega)] at e hb1
          omega
        rw [hb1, Int.toNat_natCast] at hpg
        cases hpg
        have hs := same6 ((x.take (b + 1)).drop a) ((x.take (b + 1)).drop a) (by rw [List.length_drop, List.length_take]; omega)
        rw [decide_eq_true rfl] at hs
        refine Ev_to (f := fun k => (incipitlaw15_known.f k).bind fun t => (if t = true then (incipitref06_Same.f k ((x.take (b + 1)).drop a) ((x.take (b + 1)).drop a)).bind fun t => some t else some false)) (Ev.bind known (by simp only [if_true]; exact Ev.bind hs (Ev.now _))) fun k => ?_
        simp only [incipitlaw15_SuffixKinds.l1]
        rw [if_pos (by omega), if_pos (by omega), rd_nat, if_pos e, w_succ i (by omega), if_pos (by omega), if_pos (by omega), rd_nat, hb1, w_succ b (by omega), if_pos (show (0 : Int) ≤ (a : Int) by omega), if_pos (show (a : Int) ≤ ((b + 1 : Nat) : Int) by omega), if_pos (show ((b + 1 : Nat) : Int) ≤ (x.length : Int) by omega), Int.toNat_natCast, Int.toNat_natCast]
        rfl
      · rw [if_pos (by omega)] at hpg
        cases hpg
        have hs := same6 (x.drop a) ((x.take x.length).drop a) (by rw [List.length_drop]; omega)
        rw [decide_eq_true (by rw [List.take_length])] at hs
        refine Ev_to (f := fun k => (incipitlaw15_known.f k).bind fun t => (if t = true then (incipitref06_Same.f k (x.drop a) ((x.take x.length).drop a)).bind fun t => some t else some false)) (Ev.bind known (by simp only [if_true]; exact Ev.bind hs (Ev.now _))) fun k => ?_
        simp only [incipitlaw15_SuffixKinds.l1]
        rw [if_pos (by omega), if_pos (by omega), rd_nat, if_pos e, w_succ i (by omega), if_neg (by omega), if_pos (show (0 : Int) ≤ (a : Int) by omega), if_pos (show (a : Int) ≤ (x.length : Int) by omega), if_pos (Int.le_refl _), Int.toNat_natCast, Int.toNat_natCast]
        rfl
    · refine Ev_to (ih (i + 1) (by omega) ?_) fun k => ?_
      · rw [take_succ_getD _ i 0 (by omega)]
        simp only [List.mem_append, List.mem_singleton, not_or]
        exact ⟨hn, fun h => e h.symm⟩
      · simp only [incipitlaw15_SuffixKinds.l1]
        rw [if_pos (by omega), if_pos (by omega), rd_nat, if_neg e, w_succ i (by omega)]
theorem kl0 {x : List Int} (hx : Txt x) (hb : x.length ≤ 65536) (at_ : Int) : ∀ d i : Nat, i + d = x.length → Ev (fun k => incipitlaw15_SuffixKinds.l0 k at_ x (kindsL x) (kindsL x) (firstsL x) (i : Int)) true := by
  have hp := hx.pos
  intro d
  induction d with
  | zero =>
    intro i hi
    have hr := tm_range at_ x.length hp (by omega)
    obtain ⟨a, ha⟩ := Int.eq_ofNat_of_zero_le hr.1
    have hal : a < x.length := by omega
    have hpc := piece hx hb a hal
    refine Ev_to (f := fun k => (suffix_Piece.f k x (a : Int)).bind fun bt => incipitlaw15_SuffixKinds.l1 k (a : Int) x (firstsL x) bt.1 bt.2 0) (Ev.bind hpc (kl1 hx hb a hal _ _ rfl (firstsL x).length 0 (by omega) (by simp))) fun k => ?_
    simp only [incipitlaw15_SuffixKinds.l0]
    rw [if_neg (by rw [kindsL_len]; omega), if_neg (by rw [IntKind.wrap_u64]; omega), ha]
  | succ d ih =>
    intro i hi
    exact Ev_to (ih (i + 1) (by omega)) fun k => by
      simp only [incipitlaw15_SuffixKinds.l0]
      rw [if_pos (by rw [kindsL_len]; omega), if_pos (by omega), if_pos (by rw [kindsL_len]; omega), if_neg (by simp), w_succ i (by omega)]
theorem SuffixKinds : incipitlaw15_SuffixKinds.Pure := by
  intro l0 a1 a2 _ _ _ _ _
  obtain ⟨x, hxe, hx, hL⟩ := text l0 a1
  have hw := txt_wf hx
  have hfl := firstsL_len x
  unfold incipitlaw15_SuffixKinds.f
  refine Ev.rounds ?_
  refine Ev.bind hxe ?_
  refine Ev.bind (kindsK x (by omega) hw) ?_
  refine Ev.bind (refKinds hx (by omega)) ?_
  refine Ev.bind (firsts x (by omega) hw) ?_
  refine Ev.bind (refFirsts hx (by omega)) ?_
  rw [if_pos hx, if_pos hx]
  simp only [if_true, kindsL_len]
  have hs := same6 (firstsL x) (firstsL x) (by omega)
  rw [decide_eq_true rfl] at hs
  refine Ev.bind hs ?_
  exact Ev_to (kl0 hx (by omega) a2 x.length 0 (by omega)) fun k => by
    simp only [incipitlaw15_SuffixKinds.j0]
    rw [if_neg (by decide)]; rfl
end Go.Proofs.Ythkofhidhghmmaa.SufPure
