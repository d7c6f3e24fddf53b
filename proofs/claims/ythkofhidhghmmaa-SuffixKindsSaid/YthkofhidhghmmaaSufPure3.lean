/- Layer 15: the pure side: right orders are the sorted one. -/
import Derived.Test.YthkofhidhghmmaaSufPure2
namespace Go.Proofs.Ythkofhidhghmmaa.SufPure
open Go.RowKit Go.Proofs.Ythkofhidhghmmaa Go.Proofs.Ythkofhidhghmmaa.PSuf Go.Proofs.YthkofhidhghmmaaW.PrintWords Go.Proofs.YthkofhidhghmmaaW.PrintMore
set_option linter.unusedVariables false

theorem cmpS_step (x : List Int) (a b : Nat) (ha : a < x.length) (hb : b < x.length) : cmpS x a b = if x.getD a 0 < x.getD b 0 then -1 else if x.getD b 0 < x.getD a 0 then 1 else cmpS x (a + 1) (b + 1) := by
  unfold cmpS
  rw [drop_cons x a 0 ha, drop_cons x b 0 hb]
  rfl
theorem txt_eq {x : List Int} (hx : Txt x) {a b : Nat} (ha : a < x.length) (hb : b < x.length) (hne : a ≠ b) (h : x.getD a 0 = x.getD b 0) : a + 1 < x.length ∧ b + 1 < x.length := by
  have h1 := hx.last a ha
  have h2 := hx.last b hb
  constructor
  · refine Classical.byContradiction fun hn => ?_
    have e1 := h1.2 (by omega)
    have e2 := h2.1 (by omega)
    omega
  · refine Classical.byContradiction fun hn => ?_
    have e1 := h2.2 (by omega)
    have e2 := h1.1 (by omega)
    omega
theorem rises_idx {x : List Int} {o : List Nat} (h : Rises x o) {u v : Nat} (hu : u ∈ o) (hv : v ∈ o) (hc : cmpS x u v < 0) : o.idxOf u < o.idxOf v := by
  have h1 := List.idxOf_lt_length_iff.2 hu
  have h2 := List.idxOf_lt_length_iff.2 hv
  have e1 : o[o.idxOf u] = u := List.getElem_idxOf h1
  have e2 : o[o.idxOf v] = v := List.getElem_idxOf h2
  rcases Nat.lt_trichotomy (o.idxOf u) (o.idxOf v) with h3 | h3 | h3
  · exact h3
  · have : u = v := by rw [← e1, ← e2]; simp only [h3]
    rw [this, cmpS_self] at hc
    omega
  · have := List.pairwise_iff_getElem.1 h _ _ h2 h1 h3
    rw [e1, e2, cmpS_swap] at this
    omega
theorem idxOf_map_nat (o : List Nat) (v : Nat) : (o.map Int.ofNat).idxOf (v : Int) = o.idxOf v := by
  induction o with
  | nil => rfl
  | cons a t ih =>
    rw [List.map_cons, List.idxOf_cons, List.idxOf_cons, ih]
    by_cases h : a = v
    · subst h; simp
    · have h1 : (Int.ofNat a == (v : Int)) = false := by simp; omega
      have h2 : (a == v) = false := by simpa using h
      rw [h1, h2]
theorem sortS_good (x : List Int) : Good (sortS x) := by
  unfold sortS
  refine ⟨?_, fun z hz => ?_⟩
  · unfold List.Nodup
    rw [List.pairwise_map]
    have : (sortN x x.length).Nodup := (sortN_perm x x.length).nodup_iff.2 List.nodup_range
    exact this.imp fun h e => h (Int.ofNat.inj e)
  · obtain ⟨y, hy, rfl⟩ := List.mem_map.1 hz
    have := (sortN_mem x _ y).1 hy
    rw [List.length_map, sortN_len]
    constructor
    · exact Int.natCast_nonneg y
    · exact Int.ofNat_lt.2 this
theorem sortS_right {x : List Int} (hx : Txt x) : RightP x (sortS x) := by
  refine ⟨sortS_good x, sortS_len x, hx, fun j hj h1 => ?_⟩
  have hg := sortS_good x
  have hlen := sortN_len x x.length
  have hr := sortN_rises x x.length (Nat.le_refl _)
  have hget : ∀ i, i < x.length → ∃ a : Nat, (sortS x).getD i 0 = (a : Int) ∧ a < x.length ∧ (sortN x x.length)[i]? = some a := fun i hi => by
    have : i < (sortN x x.length).length := by omega
    refine ⟨(sortN x x.length)[i], ?_, (sortN_mem x _ _).1 (List.getElem_mem _), by simp [this]⟩
    unfold sortS
    simp [List.getD_eq_getElem?_getD, this]
  rw [sortS_len] at hj
  obtain ⟨a, ha, hal, ha2⟩ := hget (j - 1) (by omega)
  obtain ⟨b, hb, hbl, hb2⟩ := hget j hj
  obtain ⟨h3, e3⟩ := List.getElem?_eq_some_iff.1 ha2
  obtain ⟨h4, e4⟩ := List.getElem?_eq_some_iff.1 hb2
  have hc := List.pairwise_iff_getElem.1 hr _ _ h3 h4 (by omega)
  rw [e3, e4] at hc
  unfold okN
  rw [ha, hb, Int.toNat_natCast, Int.toNat_natCast]
  rw [cmpS_step x a b hal hbl] at hc
  rintro (h | ⟨h, h'⟩)
  · rw [if_neg (by omega), if_pos (by omega)] at hc
    omega
  · rw [if_neg (by omega), if_neg (by omega)] at hc
    have hne : a ≠ b := fun e => by rw [e, cmpS_self] at hc; omega
    obtain ⟨h5, h6⟩ := txt_eq hx hal hbl hne h
    have hi := rises_idx hr ((sortN_mem x _ _).2 h5) ((sortN_mem x _ _).2 h6) hc
    rw [outOf_good hg _ (by rw [sortS_len]; omega), outOf_good hg _ (by rw [sortS_len]; omega)] at h'
    unfold sortS at h'
    rw [idxOf_map_nat, idxOf_map_nat] at h'
    omega
/-- Whatever stands ahead is less, by the first number or by the rest's place. -/
theorem right_less {x l : List Int} (h : RightP x l) : ∀ d p q : Nat, p + d + 1 = q → q < l.length → ∀ a b : Nat, l.getD p 0 = (a : Int) → l.getD q 0 = (b : Int) →
    x.getD a 0 < x.getD b 0 ∨ x.getD a 0 = x.getD b 0 ∧ l.idxOf ((a + 1 : Nat) : Int) < l.idxOf ((b + 1 : Nat) : Int) := by
  obtain ⟨hg, hl, hx, hok⟩ := h
  intro d
  induction d with
  | zero =>
    intro p q hpq hq a b ha hb
    have hk := hok q hq (by omega)
    unfold okN at hk
    rw [show q - 1 = p by omega, ha, hb, Int.toNat_natCast, Int.toNat_natCast] at hk
    have hal : a < x.length := by have := hg.2 _ (getD_mem l p 0 (by omega)); omega
    have hbl : b < x.length := by have := hg.2 _ (getD_mem l q 0 (by omega)); omega
    by_cases h1 : x.getD a 0 < x.getD b 0
    · exact .inl h1
    · have h2 : x.getD a 0 = x.getD b 0 := by
        by_cases h3 : x.getD a 0 > x.getD b 0
        · exact absurd (.inl h3) hk
        · omega
      have hne : a ≠ b := fun e => by
        have := good_inj hg (i := p) (j := q) (by omega) (by omega) (by rw [ha, hb, e])
        omega
      obtain ⟨h5, h6⟩ := txt_eq hx hal hbl hne h2
      refine .inr ⟨h2, ?_⟩
      have h7 : ¬ (outOf l.length l).getD (a + 1) 0 > (outOf l.length l).getD (b + 1) 0 := fun h => hk (.inr ⟨h2, h⟩)
      rw [outOf_good hg _ (by omega), outOf_good hg _ (by omega)] at h7
      have h8 : l.idxOf ((a + 1 : Nat) : Int) ≠ l.idxOf ((b + 1 : Nat) : Int) := fun e => by
        have e1 := idxOf_getD (good_all hg (u := a + 1) (by omega))
        rw [e, idxOf_getD (good_all hg (u := b + 1) (by omega))] at e1
        omega
      omega
  | succ d ih =>
    intro p q hpq hq a b ha hb
    obtain ⟨c, hc, hcl⟩ := good_nat hg (q - 1) (by omega)
    have h1 := ih p (q - 1) (by omega) (by omega) a c ha hc
    have hk := hok q hq (by omega)
    unfold okN at hk
    rw [hc, hb, Int.toNat_natCast, Int.toNat_natCast] at hk
    have hbl : b < x.length := by have := hg.2 _ (getD_mem l q 0 (by omega)); omega
    have h2 : x.getD c 0 < x.getD b 0 ∨ x.getD c 0 = x.getD b 0 ∧ l.idxOf ((c + 1 : Nat) : Int) < l.idxOf ((b + 1 : Nat) : Int) := by
      by_cases h1 : x.getD c 0 < x.getD b 0
      · exact .inl h1
      · have h2 : x.getD c 0 = x.getD b 0 := by
          by_cases h3 : x.getD c 0 > x.getD b 0
          · exact absurd (.inl h3) hk
          · omega
        have hne : c ≠ b := fun e => by
          have := good_inj hg (i := q - 1) (j := q) (by omega) (by omega) (by rw [hc, hb, e])
          omega
        obtain ⟨h5, h6⟩ := txt_eq hx (by omega) hbl hne h2
        refine .inr ⟨h2, ?_⟩
        have h7 : ¬ (outOf l.length l).getD (c + 1) 0 > (outOf l.length l).getD (b + 1) 0 := fun h => hk (.inr ⟨h2, h⟩)
        rw [outOf_good hg _ (by omega), outOf_good hg _ (by omega)] at h7
        have h8 : l.idxOf ((c + 1 : Nat) : Int) ≠ l.idxOf ((b + 1 : Nat) : Int) := fun e => by
          have e1 := idxOf_getD (good_all hg (u := c + 1) (by omega))
          rw [e, idxOf_getD (good_all hg (u := b + 1) (by omega))] at e1
          omega
        omega
    rcases h1 with h1 | h1 <;> rcases h2 with h2 | h2
    · exact .inl (by omega)
    · exact .inl (by omega)
    · exact .inl (by omega)
    · exact .inr ⟨by omega, by omega⟩
theorem right_cmp {x l : List Int} (h : RightP x l) : ∀ d a b : Nat, a < x.length → b < x.length → x.length - a ≤ d → l.idxOf (a : Int) < l.idxOf (b : Int) → cmpS x a b < 0 := by
  intro d
  induction d with
  | zero => intro a b ha hb hd; omega
  | succ d ih =>
    intro a b ha hb hd hi
    have hl := h.2.1
    have hma := good_all h.1 (u := a) (by omega)
    have hmb := good_all h.1 (u := b) (by omega)
    have hbi := List.idxOf_lt_length_iff.2 hmb
    have hs := right_less h (l.idxOf (b : Int) - l.idxOf (a : Int) - 1) _ _ (by omega) hbi a b (idxOf_getD hma) (idxOf_getD hmb)
    rw [cmpS_step x a b ha hb]
    rcases hs with hs | ⟨hs, hs2⟩
    · rw [if_pos hs]; omega
    · have hne : a ≠ b := fun e => by subst e; omega
      obtain ⟨h5, h6⟩ := txt_eq h.2.2.1 ha hb hne hs
      rw [if_neg (by omega), if_neg (by omega)]
      exact ih (a + 1) (b + 1) h5 h6 (by omega) hs2
theorem perm_of_nodup {α : Type} [DecidableEq α] : ∀ (a b : List α), a.Nodup → b.Nodup → (∀ x, x ∈ a ↔ x ∈ b) → a.Perm b
  | [], b, _, _, h => by
    cases b with
    | nil => exact List.Perm.refl _
    | cons y t => have := (h y).2 (List.mem_cons_self ..); simp at this
  | x :: a, b, ha, hb, h => by
    have ha' := List.nodup_cons.1 ha
    have hx := (h x).1 (List.mem_cons_self ..)
    have h1 := List.perm_cons_erase hx
    have hb2 : (x :: b.erase x).Nodup := h1.nodup_iff.1 hb
    have hb' := List.nodup_cons.1 hb2
    refine ((perm_of_nodup a (b.erase x) ha'.2 hb'.2 fun y => ?_).cons x).trans h1.symm
    constructor
    · intro hy
      have := (h y).1 (List.mem_cons_of_mem _ hy)
      rcases List.mem_cons.1 (h1.mem_iff.1 this) with e | e
      · exact absurd (e ▸ hy) ha'.1
      · exact e
    · intro hy
      have := (h y).2 (h1.mem_iff.2 (List.mem_cons_of_mem _ hy))
      rcases List.mem_cons.1 this with e | e
      · exact absurd (e ▸ hy) hb'.1
      · exact e
theorem right_sorted {x l : List Int} (h : RightP x l) : l = sortS x := by
  obtain ⟨hg, hl, hx, hok⟩ := h
  have hback : (l.map Int.toNat).map Int.ofNat = l := by
    rw [List.map_map]
    refine (List.map_congr_left fun z hz => ?_).trans (List.map_id l)
    have := hg.2 z hz
    simp only [Function.comp, id]
    exact Int.toNat_of_nonneg this.1
  have hget : ∀ (i : Nat) (hi : i < (l.map Int.toNat).length), l.getD i 0 = (((l.map Int.toNat)[i] : Nat) : Int) := fun i hi => by
    have hi' : i < l.length := by simpa using hi
    have := hg.2 _ (getD_mem l i 0 hi')
    rw [getD_lt l i 0 hi'] at this ⊢
    rw [List.getElem_map]
    omega
  have hnd : (l.map Int.toNat).Nodup := by
    unfold List.Nodup
    rw [List.pairwise_iff_getElem]
    intro i j hi hj hij e
    have e2 := good_inj hg (i := i) (j := j) (by simpa using hi) (by simpa using hj) (by rw [hget i hi, hget j hj, e])
    omega
  have hp : (l.map Int.toNat).Perm (sortN x x.length) := by
    refine (perm_of_nodup _ _ hnd List.nodup_range fun u => ?_).trans (sortN_perm x x.length).symm
    rw [List.mem_range, List.mem_map]
    constructor
    · rintro ⟨z, hz, rfl⟩
      have := hg.2 z hz
      omega
    · intro hu
      exact ⟨(u : Int), good_all hg (by omega), Int.toNat_natCast u⟩
  have hr : Rises x (l.map Int.toNat) := by
    unfold Rises
    rw [List.pairwise_iff_getElem]
    intro i j hi hj hij
    have e1 := hget i hi
    have e2 := hget j hj
    have hi' : i < l.length := by simpa using hi
    have hj' : j < l.length := by simpa using hj
    have hu := hg.2 _ (getD_mem l i 0 hi')
    have hv := hg.2 _ (getD_mem l j 0 hj')
    generalize (l.map Int.toNat)[i] = a at e1 ⊢
    generalize (l.map Int.toNat)[j] = b at e2 ⊢
    have hia : l.idxOf (a : Int) = i := by
      have hm := good_all hg (u := a) (by omega)
      exact good_inj hg (List.idxOf_lt_length_iff.2 hm) hi' (by rw [idxOf_getD hm, e1])
    have hib : l.idxOf (b : Int) = j := by
      have hm := good_all hg (u := b) (by omega)
      exact good_inj hg (List.idxOf_lt_length_iff.2 hm) hj' (by rw [idxOf_getD hm, e2])
    exact right_cmp ⟨hg, hl, hx, hok⟩ (x.length - a) a b (by omega) (by omega) (Nat.le_refl _) (by omega)
  have := Rises.one hr (sortN_rises x x.length (Nat.le_refl _)) hp
  rw [← hback, this]
  rfl
theorem right_iff {x l : List Int} : RightP x l ↔ Txt x ∧ sortS x = l := ⟨fun h => ⟨h.2.2.1, (right_sorted h).symm⟩, fun h => h.2 ▸ sortS_right h.1⟩

theorem take_wf {l : List Int} {n : Nat} (h : ∀ x ∈ l, (Lit.int .i64 x).wf = true) : ∀ x ∈ l.take n, (Lit.int .i64 x).wf = true := fun x hx => h x (List.mem_of_mem_take hx)
theorem SuffixRight : incipitlaw15_SuffixRight.Pure := by
  intro l0 l1 _ _ hw0 _ _ hw1
  have hx : (l0.take 60).length ≤ 60 := List.length_take_le _ _
  have ho : (l1.take 60).length ≤ 60 := List.length_take_le _ _
  have hw := take_wf (n := 60) hw0
  unfold incipitlaw15_SuffixRight.f
  simp only [raw, Option.bind_some]
  generalize l0.take 60 = x at hx hw
  generalize l1.take 60 = o at ho
  refine Ev.rounds ?_
  refine Ev.bind (sort x (by omega) hw) ?_
  refine Ev.bind known ?_
  simp only [if_true]
  refine Ev.bind (right x o (by omega) (by omega) hw) ?_
  by_cases hT : Txt x
  · simp only [if_pos hT, if_true]
    refine Ev.bind (same6 _ _ (by rw [sortS_len]; omega)) ?_
    have e1 : decide (RightP x o) = decide (sortS x = o) := decide_eq_decide.2 ⟨fun h => (right_iff.1 h).2, fun h => right_iff.2 ⟨hT, h⟩⟩
    rw [e1]
    simp only [beq_self_eq_true, if_true]
    have h2 := right x (sortS x) (by omega) (by rw [sortS_len]; omega) hw
    rw [decide_eq_true (sortS_right hT)] at h2
    exact Ev.bind h2 (Ev.now _)
  · have hc : ¬ chk x = 0 := fun e => hT ((txt_iff x).1 e)
    simp only [if_neg hT, if_neg hc]
    rw [decide_eq_false (fun h => hT h.2.2.1)]
    exact Ev.now _
end Go.Proofs.Ythkofhidhghmmaa.SufPure
