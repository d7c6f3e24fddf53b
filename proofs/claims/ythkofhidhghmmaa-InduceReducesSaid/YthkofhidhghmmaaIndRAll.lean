/- Layer 16: the pure side of InduceReduces (wip/tools/mkpure.py wrote it out of SufPure1, SufPure2, SufPure3, SufPure4, SufPure5, SufPure6, SufPure7, IndPure2, IndPure3, NmPure, RedPure). -/
import Derived.Test.YthkofhidhghmmaaPIndRx5
import Derived.Test.YthkofhidhghmmaaPIndRx0
import Derived.Test.YthkofhidhghmmaaPIndRx1
import Derived.Test.YthkofhidhghmmaaPIndRx2
import Derived.Test.YthkofhidhghmmaaPIndRx3
import Derived.Test.YthkofhidhghmmaaPIndRx4
import Derived.Test.YthkofhidhghmmaaEvW
namespace Go.Proofs.Ythkofhidhghmmaa.IndRAll
open Go.RowKit Go.Proofs.Ythkofhidhghmmaa Go.Proofs.Ythkofhidhghmmaa.PIndR Go.Proofs.YthkofhidhghmmaaW.PrintWords Go.Proofs.YthkofhidhghmmaaW.PrintMore
set_option linter.unusedVariables false

/-! ### Same -/
theorem same6_l (a b : List Int) (hl : a.length = b.length) (hs : a.length < 4611686018427387904) : ∀ d i : Nat, i + d = a.length → Ev (fun k => incipitref06_Same.l0 k a b (i : Int)) (decide (a.drop i = b.drop i)) := by
  intro d
  induction d with
  | zero =>
    intro i hi
    rw [List.drop_of_length_le (by omega), List.drop_of_length_le (by omega), decide_eq_true rfl]
    exact Ev_now fun k => by simp only [incipitref06_Same.l0]; rw [if_neg (by omega)]
  | succ d ih =>
    intro i hi
    rw [drop_cons a i 0 (by omega), drop_cons b i 0 (by omega)]
    by_cases e : a.getD i 0 = b.getD i 0
    · rw [e]
      simp only [List.cons.injEq, true_and]
      exact Ev_to (ih (i + 1) (by omega)) fun k => by
        simp only [incipitref06_Same.l0]
        rw [if_pos (by omega), if_pos (by omega), if_pos (by omega), if_pos (by rw [rd_nat, rd_nat, e]), w_succ i (by omega)]
    · rw [decide_eq_false (by simp only [List.cons.injEq]; exact fun h => e h.1)]
      exact Ev_now fun k => by
        simp only [incipitref06_Same.l0]
        rw [if_pos (by omega), if_pos (by omega), if_pos (by omega), if_neg (by rw [rd_nat, rd_nat]; exact e)]
theorem same6 (a b : List Int) (hs : a.length < 4611686018427387904) : Ev (fun k => incipitref06_Same.f k a b) (decide (a = b)) := by
  by_cases h : a.length = b.length
  · have := same6_l a b h hs a.length 0 (by omega)
    simp only [List.drop_zero] at this
    exact Ev_as this fun k => by unfold incipitref06_Same.f; rw [if_pos (by omega)]; rfl
  · rw [decide_eq_false (fun e => h (by rw [e]))]
    exact Ev_eq fun k => by unfold incipitref06_Same.f; rw [if_neg (by omega)]

/-- Each place once. -/
def Good (l : List Int) : Prop := l.Nodup ∧ ∀ x ∈ l, 0 ≤ x ∧ x < (l.length : Int)
instance (l : List Int) : Decidable (Good l) := by unfold Good; infer_instance
def GoodP (n : Nat) (l : List Int) : Prop := l.Nodup ∧ ∀ x ∈ l, 0 ≤ x ∧ x < (n : Int)
/-- Where each number of a row stands. -/
def outOf (n : Nat) (p : List Int) : List Int := (List.range n).map fun (v : Nat) => if (v : Int) ∈ p then (p.idxOf (v : Int) : Int) else -1
theorem outOf_len (n : Nat) (p : List Int) : (outOf n p).length = n := by simp [outOf]
theorem outOf_get (n : Nat) (p : List Int) (v : Nat) (h : v < n) : (outOf n p).getD v 0 = if (v : Int) ∈ p then (p.idxOf (v : Int) : Int) else -1 := by
  simp [outOf, List.getD_eq_getElem?_getD, h]
theorem outOf_nil (n : Nat) : outOf n [] = List.replicate n (-1) := by
  refine List.ext_getElem (by simp [outOf]) fun i h1 h2 => by simp [outOf]
theorem outOf_snoc (n : Nat) (p : List Int) (v : Nat) (hv : (v : Int) ∉ p) : (outOf n p).set v (p.length : Int) = outOf n (p ++ [(v : Int)]) := by
  refine List.ext_getElem (by simp [outOf]) fun i h1 h2 => ?_
  rw [List.getElem_set]
  simp only [outOf, List.getElem_map, List.getElem_range]
  by_cases h : v = i
  · subst h
    simp [List.idxOf_append, hv]
  · rw [if_neg h]
    by_cases hi : (i : Int) ∈ p
    · simp [hi, List.idxOf_append]
    · have : ¬ (i : Int) = (v : Int) := by omega
      simp [hi, this]

theorem goodP_snoc {n : Nat} {p : List Int} {v : Int} (h : GoodP n p) (h0 : 0 ≤ v) (h1 : v < n) (hv : v ∉ p) : GoodP n (p ++ [v]) := by
  refine ⟨?_, fun x hx => ?_⟩
  · rw [List.nodup_append]
    refine ⟨h.1, by simp, fun a ha b hb => ?_⟩
    rw [List.mem_singleton] at hb
    subst hb
    exact fun e => hv (e ▸ ha)
  · rcases List.mem_append.1 hx with hx | hx
    · exact h.2 x hx
    · rw [List.mem_singleton] at hx; subst hx; exact ⟨h0, h1⟩
def turnedR (l : List Int) : List Int × Int := if Good l then (outOf l.length l, 0) else ([], 3)
theorem turned_l1 (l : List Int) (n : Nat) (hn : l.length = n) (hb : n < 1000000) : ∀ d i : Nat, i + d = n → GoodP n (l.take i) → Ev (fun k => suffix_Turned.l1 k l (outOf n (l.take i)) l (n : Int) (i : Int)) (turnedR l) := by
  intro d
  induction d with
  | zero =>
    intro i hi hg
    rw [List.take_of_length_le (by omega)] at hg ⊢
    have hG : Good l := ⟨hg.1, by rw [hn]; exact hg.2⟩
    unfold turnedR
    rw [if_pos hG]
    exact Ev_now fun k => by simp only [suffix_Turned.l1]; rw [if_neg (by omega), hn]
  | succ d ih =>
    intro i hi hg
    have hm := getD_mem l i 0 (by omega)
    have ht := take_succ_getD l i 0 (by omega)
    generalize hv : l.getD i 0 = v at hm ht
    by_cases h0 : v < 0
    · have hG : ¬ Good l := fun h => by have := h.2 v hm; omega
      unfold turnedR
      rw [if_neg hG]
      exact Ev_now fun k => by
        simp only [suffix_Turned.l1]
        rw [if_pos (by omega), if_pos (by omega), if_pos (by omega), if_pos (by rw [rd_nat, hv]; exact h0)]
    · by_cases h1 : (l.length : Int) ≤ v
      · have hG : ¬ Good l := fun h => by have := h.2 v hm; omega
        unfold turnedR
        rw [if_neg hG]
        exact Ev_now fun k => by
          simp only [suffix_Turned.l1]
          rw [if_pos (by omega), if_pos (by omega), if_pos (by omega), if_neg (by rw [rd_nat, hv]; exact h0), if_pos (by rw [rd_nat, hv]; exact h1)]
      · obtain ⟨u, rfl⟩ := Int.eq_ofNat_of_zero_le (show 0 ≤ v by omega)
        have hu : u < n := by omega
        have hr : rd (outOf n (l.take i)) (u : Int) = if (u : Int) ∈ l.take i then ((l.take i).idxOf (u : Int) : Int) else -1 := outOf_get n _ u hu
        by_cases hin : (u : Int) ∈ l.take i
        · have hG : ¬ Good l := fun h => by
            have := h.1
            rw [← List.take_append_drop i l, List.nodup_append] at this
            refine this.2.2 _ hin _ ?_ rfl
            rw [drop_cons l i 0 (by omega), hv]
            exact List.mem_cons_self ..
          unfold turnedR
          rw [if_neg hG]
          rw [if_pos hin] at hr
          exact Ev_now fun k => by
            simp only [suffix_Turned.l1]
            rw [if_pos (by omega), if_pos (by omega), if_pos (by omega), rd_nat, hv, if_neg h0, if_neg (by omega), if_pos (by omega), if_pos (by rw [outOf_len]; omega), if_pos (by rw [hr]; omega)]
        · rw [if_neg hin] at hr
          have hs := outOf_snoc n (l.take i) u hin
          rw [← ht, List.length_take, Nat.min_eq_left (by omega)] at hs
          refine Ev_to (ih (i + 1) (by omega) (by rw [ht]; exact goodP_snoc hg (by omega) (by omega) hin)) fun k => ?_
          simp only [suffix_Turned.l1]
          rw [if_pos (by omega), if_pos (by omega), if_pos (by omega), rd_nat, hv, if_neg h0, if_neg (by omega), if_pos (by omega), if_pos (by rw [outOf_len]; omega), if_neg (by rw [hr]; omega), w_succ i (by omega), Int.toNat_natCast, hs]
theorem turned_l0 (l : List Int) (n : Nat) (hn : l.length = n) (hb : n < 1000000) :
    ∀ d i : Nat, i + d = n → ∀ o : List Int, o.length = n → o.take i = List.replicate i (-1) → Ev (fun k => suffix_Turned.l0 k l o (n : Int) (i : Int)) (turnedR l) := by
  intro d
  induction d with
  | zero =>
    intro i hi o ho hr
    rw [List.take_of_length_le (by omega)] at hr
    have h := turned_l1 l n hn hb n 0 (by omega) ⟨by simp, by simp⟩
    rw [List.take_zero, outOf_nil, show n = i by omega, ← hr] at h
    exact Ev_to h fun k => by
      simp only [suffix_Turned.l0]
      rw [if_neg (by omega), hn, show n = i by omega]; rfl
  | succ d ih =>
    intro i hi o ho hr
    refine Ev_to (ih (i + 1) (by omega) (o.set i (-1)) (by rw [List.length_set, ho]) ?_) fun k => ?_
    · rw [take_succ_getD _ i 0 (by rw [List.length_set]; omega), List.take_set_of_le (Nat.le_refl _), hr, List.replicate_succ']
      simp [List.getD_eq_getElem?_getD, show i < o.length by omega]
    · simp only [suffix_Turned.l0]
      rw [if_pos (by omega), if_pos (by omega), if_pos (by omega), w_succ i (by omega), Int.toNat_natCast]
theorem turned (l : List Int) (hb : l.length < 1000000) : Ev (fun k => suffix_Turned.f k l) (turnedR l) := by
  have h := turned_l0 l l.length rfl hb l.length 0 (by omega) (List.replicate l.length 0) (by simp) (by simp)
  exact Ev_as h fun k => by
    unfold suffix_Turned.f
    rw [if_pos (by omega), if_pos (by omega), Option.bind_some, Int.toNat_natCast, List.length_replicate]; rfl

/-! ### the document's -/
/-! ### each place once -/
theorem idxOf_getD {l : List Int} {x : Int} (h : x ∈ l) : l.getD (l.idxOf x) 0 = x := by
  have := List.idxOf_lt_length_iff.2 h
  rw [getD_lt _ _ _ this]
  exact List.getElem_idxOf this

/-! ### what is a text -/
theorem index_l (l : List Int) (hb : l.length < 1000000) (v : Int) : ∀ d i : Nat, i + d = l.length → v ∉ l.take i → Ev (fun k => slices_Index_int_int.l0 k l v (l.length : Int) (i : Int)) (if v ∈ l then (l.idxOf v : Int) else -1) := by
  intro d
  induction d with
  | zero =>
    intro i hi hn
    rw [List.take_of_length_le (by omega)] at hn
    rw [if_neg hn]
    exact Ev_now fun k => by simp only [slices_Index_int_int.l0]; rw [if_neg (by omega)]
  | succ d ih =>
    intro i hi hn
    by_cases e : v = l.getD i 0
    · have hm := getD_mem l i 0 (by omega)
      have hx : l.idxOf v = i := by
        conv => lhs; rw [← List.take_append_drop i l]
        rw [List.idxOf_append, if_neg hn, drop_cons l i 0 (by omega), ← e, List.idxOf_cons_self, List.length_take]
        omega
      rw [if_pos (by rw [e]; exact hm), hx]
      exact Ev_now fun k => by
        simp only [slices_Index_int_int.l0]
        rw [if_pos (by omega), if_pos (by omega), if_pos (by omega), if_pos (by rw [rd_nat]; exact e)]
    · refine Ev_to (ih (i + 1) (by omega) ?_) fun k => ?_
      · rw [take_succ_getD l i 0 (by omega)]
        simp only [List.mem_append, List.mem_singleton, not_or]
        exact ⟨hn, e⟩
      · simp only [slices_Index_int_int.l0]
        rw [if_pos (by omega), if_pos (by omega), if_pos (by omega), if_neg (by rw [rd_nat]; exact e), w_succ i (by omega)]
theorem index (l : List Int) (hb : l.length < 1000000) (v : Int) : Ev (fun k => slices_Index_int_int.f k l v) (if v ∈ l then (l.idxOf v : Int) else -1) := index_l l hb v l.length 0 (by omega) (by simp)
/-- Codes, and a nought at the end alone. -/
structure Txt (l : List Int) : Prop where
  rng : ∀ x ∈ l, 0 ≤ x ∧ x < 65536
  last : ∀ i : Nat, i < l.length → (l.getD i 0 = 0 ↔ i + 1 = l.length)
  pos : 0 < l.length
def chk (l : List Int) : Int := if l.any badCode = true then 10 else if (if (0 : Int) ∈ l then (l.idxOf 0 : Int) else -1) = (l.length : Int) - 1 then (if l.length = 0 then 3 else 0) else 3
theorem txt_iff (l : List Int) : chk l = 0 ↔ Txt l := by
  unfold chk
  have hbad : l.any badCode = true ↔ ¬ ∀ x ∈ l, 0 ≤ x ∧ x < 65536 := by
    rw [List.any_eq_true]
    constructor
    · rintro ⟨x, hx, hb⟩ h
      have := h x hx
      unfold badCode at hb
      simp at hb
      omega
    · intro h
      refine Classical.byContradiction fun hn => h fun x hx => Classical.byContradiction fun h2 => hn ⟨x, hx, ?_⟩
      unfold badCode
      simp
      omega
  by_cases h1 : l.any badCode = true
  · rw [if_pos h1]
    exact ⟨fun h => absurd h (by decide), fun h => absurd h.rng (hbad.1 h1)⟩
  · rw [if_neg h1]
    have hr : ∀ x ∈ l, 0 ≤ x ∧ x < 65536 := Classical.byContradiction fun h => h1 (hbad.2 h)
    by_cases h2 : (0 : Int) ∈ l
    · rw [if_pos h2]
      have hlt := List.idxOf_lt_length_iff.2 h2
      by_cases h3 : (l.idxOf (0 : Int) : Int) = (l.length : Int) - 1
      · rw [if_pos h3, if_neg (by omega)]
        refine ⟨fun _ => ⟨hr, fun i hi => ⟨fun e => ?_, fun e => ?_⟩, by omega⟩, fun _ => rfl⟩
        · refine Classical.byContradiction fun hne => ?_
          have hlt2 : i < l.idxOf (0 : Int) := by omega
          have := List.not_of_lt_findIdx (p := (· == (0 : Int))) (xs := l) hlt2
          rw [getD_lt l i 0 hi] at e
          simp [e] at this
        · have := idxOf_getD h2
          rwa [show l.idxOf (0 : Int) = i by omega] at this
      · rw [if_neg h3]
        refine ⟨fun h => absurd h (by decide), fun h => ?_⟩
        have := (h.last _ hlt).1 (idxOf_getD h2)
        omega
    · rw [if_neg h2]
      by_cases h3 : (-1 : Int) = (l.length : Int) - 1
      · rw [if_pos h3, if_pos (by omega)]
        exact ⟨fun h => absurd h (by decide), fun h => absurd h.pos (by omega)⟩
      · rw [if_neg h3]
        refine ⟨fun h => absurd h (by decide), fun h => absurd ?_ h2⟩
        have h4 := (h.last (l.length - 1) (by have := h.pos; omega)).2 (by have := h.pos; omega)
        rw [← h4]
        exact getD_mem l _ 0 (by have := h.pos; omega)
instance (l : List Int) : Decidable (Txt l) := decidable_of_iff _ (txt_iff l)
theorem inKs_true {l : List Int} (h : ∀ x ∈ l, (Lit.int .i64 x).wf = true) : inKs .i64 l = true := List.all_eq_true.2 h
theorem check (l : List Int) (hb : l.length ≤ 65536) (hw : ∀ x ∈ l, (Lit.int .i64 x).wf = true) : Ev (fun k => suffix_Check.f k l) (chk l) := by
  unfold suffix_Check.f
  simp only [if_neg (show ¬ 65536 < l.length by omega), if_pos (inKs_true hw)]
  unfold chk
  by_cases h1 : l.any badCode = true
  · simp only [if_pos h1]; exact Ev.now _
  · simp only [if_neg h1]
    refine Ev.bind (index l (by omega) 0) ?_
    by_cases h3 : (if (0 : Int) ∈ l then (l.idxOf 0 : Int) else -1) = (l.length : Int) - 1
    · simp only [if_pos h3]
      by_cases h0 : l.length = 0
      · simp only [if_pos h0]; exact Ev.now _
      · simp only [if_neg h0]; exact Ev.now _
    · simp only [if_neg h3]; exact Ev.now _

/-! ### how a suffix is against another one -/
/-! ### right -/
theorem good_nat {l : List Int} (h : Good l) (i : Nat) (hi : i < l.length) : ∃ a : Nat, l.getD i 0 = (a : Int) ∧ a < l.length := by
  have := h.2 _ (getD_mem l i 0 hi)
  exact ⟨(l.getD i 0).toNat, by omega, by omega⟩

theorem cmpS_step (x : List Int) (a b : Nat) (ha : a < x.length) (hb : b < x.length) : cmpS x a b = if x.getD a 0 < x.getD b 0 then -1 else if x.getD b 0 < x.getD a 0 then 1 else cmpS x (a + 1) (b + 1) := by
  unfold cmpS
  rw [drop_cons x a 0 ha, drop_cons x b 0 hb]
  rfl
theorem txt_eq {x : List Int} (hx : Txt x) {a b : Nat} (ha : a < x.length) (hb : b < x.length) (hne : a ≠ b) (h : x.getD a 0 = x.getD b 0) : a + 1 < x.length ∧ b + 1 < x.length := by
  have h1 := hx.last a ha
  have h2 := hx.last b hb
  constructor
  · refine Classical.byContradiction fun hn => ?_
    have e1 := h1.2 (by omega)
    have e2 := h2.1 (by omega)
    omega
  · refine Classical.byContradiction fun hn => ?_
    have e1 := h2.2 (by omega)
    have e2 := h1.1 (by omega)
    omega
theorem sortS_good (x : List Int) : Good (sortS x) := by
  unfold sortS
  refine ⟨?_, fun z hz => ?_⟩
  · unfold List.Nodup
    rw [List.pairwise_map]
    have : (sortN x x.length).Nodup := (sortN_perm x x.length).nodup_iff.2 List.nodup_range
    exact this.imp fun h e => h (Int.ofNat.inj e)
  · obtain ⟨y, hy, rfl⟩ := List.mem_map.1 hz
    have := (sortN_mem x _ y).1 hy
    rw [List.length_map, sortN_len]
    constructor
    · exact Int.natCast_nonneg y
    · exact Int.ofNat_lt.2 this

theorem tm_range (a : Int) (s : Nat) (h0 : 0 < s) (h1 : s < 4611686018427387904) : 0 ≤ wrap64 (Int.tmod (IntKind.u64.wrap a) (IntKind.u64.wrap (s : Int))) ∧ wrap64 (Int.tmod (IntKind.u64.wrap a) (IntKind.u64.wrap (s : Int))) < s := by
  rw [IntKind.wrap_u64, IntKind.wrap_u64, Int.emod_eq_of_lt (a := (s : Int)) (by omega) (by omega), Int.tmod_eq_emod_of_nonneg (by omega)]
  have h2 := Int.emod_nonneg (a % 18446744073709551616) (b := (s : Int)) (by omega)
  have h3 := Int.emod_lt_of_pos (a % 18446744073709551616) (b := (s : Int)) (by omega)
  rw [w_id (by omega) (by omega)]
  exact ⟨h2, h3⟩
theorem txt_of (o : List Int) (h : ∀ z ∈ o, 1 ≤ z ∧ z ≤ 65535) : Txt (o ++ [0]) := by
  refine ⟨fun x hx => ?_, fun i hi => ?_, by simp⟩
  · rcases List.mem_append.1 hx with hx | hx
    · have := h x hx; omega
    · rw [List.mem_singleton] at hx; omega
  · rw [List.length_append, List.length_singleton] at hi ⊢
    by_cases e : i < o.length
    · have hg : (o ++ [0]).getD i 0 = o.getD i 0 := by simp [List.getD_eq_getElem?_getD, List.getElem?_append_left e]
      have := h _ (getD_mem o i 0 e)
      rw [hg]
      constructor <;> intro h2 <;> omega
    · have hg : (o ++ [0]).getD i 0 = 0 := by
        rw [show i = o.length by omega]
        simp [List.getD_eq_getElem?_getD]
      rw [hg]
      constructor
      · intro _; omega
      · intro _; rfl
theorem text_l (l : List Int) (s : Nat) (h0 : 0 < s) (h1 : s < 10) : ∀ d i : Nat, i + d = min l.length 120 → ∀ o : List Int, o.length = i → (∀ z ∈ o, 1 ≤ z ∧ z ≤ 65535) → ∃ x, Ev (fun k => incipitlaw15_Text.l0 k l (s : Int) o (i : Int)) x ∧ Txt x ∧ x.length ≤ 121 := by
  intro d
  induction d with
  | zero =>
    intro i hi o ho hz
    refine ⟨o ++ [0], Ev_now fun k => ?_, txt_of o hz, by simp; omega⟩
    simp only [incipitlaw15_Text.l0]
    by_cases h : i < l.length
    · rw [if_pos (by omega), if_neg (by omega), if_pos (by omega)]
    · rw [if_neg (by omega), if_pos (by omega)]
  | succ d ih =>
    intro i hi o ho hz
    have hr := tm_range (l.getD i 0) s h0 (by omega)
    generalize hv : wrap64 (Int.tmod (IntKind.u64.wrap (l.getD i 0)) (IntKind.u64.wrap (s : Int))) = v at hr
    obtain ⟨x, hx, hT, hL⟩ := ih (i + 1) (by omega) (o ++ [1 + v]) (by simp; omega) (fun z hz2 => by
      rcases List.mem_append.1 hz2 with h | h
      · exact hz z h
      · rw [List.mem_singleton] at h; omega)
    refine ⟨x, Ev_to hx fun k => ?_, hT, hL⟩
    simp only [incipitlaw15_Text.l0]
    rw [if_pos (by omega), if_pos (by omega), if_pos (by omega), if_neg (by rw [IntKind.wrap_u64]; omega), if_pos (by omega), rd_nat, hv, w_id (x := 1 + v) (by omega) (by omega), w_succ i (by omega)]
theorem text (l : List Int) (a : Int) : ∃ x, Ev (fun k => incipitlaw15_Text.f k l a) x ∧ Txt x ∧ x.length ≤ 121 := by
  have hr := tm_range a 9 (by decide) (by decide)
  have e9 : IntKind.u64.wrap ((9 : Nat) : Int) = 9 := by rw [IntKind.wrap_u64]; rfl
  rw [e9] at hr
  unfold incipitlaw15_Text.f
  generalize wrap64 (Int.tmod (IntKind.u64.wrap a) 9) = v at hr
  rw [w_id (x := 1 + v) (by omega) (by omega)]
  obtain ⟨s, hs⟩ := Int.eq_ofNat_of_zero_le (show 0 ≤ 1 + v by omega)
  rw [hs]
  exact text_l l s (by omega) (by omega) _ 0 (Nat.zero_add _) [] rfl (by simp)
theorem txt_wf {x : List Int} (h : Txt x) : ∀ z ∈ x, (Lit.int .i64 z).wf = true := fun z hz => by
  have := h.rng z hz
  exact (InK.of_i64 (x := z) (by omega) (by omega)).1

/-! ### how much is alike -/
def comL : List Int → List Int → Nat
  | a :: s, b :: t => if a = b then comL s t + 1 else 0
  | _, _ => 0
theorem comL_nil (s : List Int) : comL s [] = 0 := by cases s <;> rfl
theorem common_l (x : List Int) (a b : Nat) (hb : x.length < 1000000) (ha : a ≤ x.length) (hbl : b ≤ x.length) : ∀ d n : Nat, a + n + d = x.length → Ev (fun k => incipitref15_Common.l0 k x (a : Int) (b : Int) (n : Int)) ((n + comL (x.drop (a + n)) (x.drop (b + n)) : Nat) : Int) := by
  intro d
  induction d with
  | zero =>
    intro n hn
    rw [List.drop_of_length_le (i := a + n) (by omega)]
    exact Ev_now fun k => by
      simp only [incipitref15_Common.l0]
      rw [if_neg (by rw [w_id] <;> omega)]; simp [comL]
  | succ d ih =>
    intro n hn
    have ea : wrap64 ((a : Int) + n) = ((a + n : Nat) : Int) := by rw [w_id] <;> omega
    have eb : wrap64 ((b : Int) + n) = ((b + n : Nat) : Int) ∨ x.length ≤ b + n := by
      by_cases h : b + n < x.length
      · exact .inl (by rw [w_id] <;> omega)
      · exact .inr (by omega)
    have eb' : wrap64 ((b : Int) + n) = ((b + n : Nat) : Int) := by rw [w_id] <;> omega
    rw [drop_cons x (a + n) 0 (by omega)]
    by_cases h : b + n < x.length
    · rw [drop_cons x (b + n) 0 h]
      unfold comL
      by_cases e : x.getD (a + n) 0 = x.getD (b + n) 0
      · rw [if_pos e]
        have := ih (n + 1) (by omega)
        rw [show n + 1 + comL (x.drop (a + (n + 1))) (x.drop (b + (n + 1))) = n + (comL (x.drop (a + n + 1)) (x.drop (b + n + 1)) + 1) by rw [Nat.add_assoc a n 1, Nat.add_assoc b n 1]; omega] at this
        exact Ev_to this fun k => by
          simp only [incipitref15_Common.l0]
          rw [ea, eb', if_pos (by omega), if_pos (by omega), if_pos (by omega), if_pos (by omega), if_pos (by rw [rd_nat, rd_nat]; exact e), w_succ n (by omega)]
      · rw [if_neg e]
        exact Ev_now fun k => by
          simp only [incipitref15_Common.l0]
          rw [ea, eb', if_pos (by omega), if_pos (by omega), if_pos (by omega), if_pos (by omega), if_neg (by rw [rd_nat, rd_nat]; exact e)]; rfl
    · rw [List.drop_of_length_le (i := b + n) (by omega), comL_nil]
      exact Ev_now fun k => by
        simp only [incipitref15_Common.l0]
        rw [ea, eb', if_pos (by omega), if_neg (by omega)]; rfl
theorem common (x : List Int) (a b : Nat) (hb : x.length < 1000000) (ha : a ≤ x.length) (hbl : b ≤ x.length) : Ev (fun k => incipitref15_Common.f k x (a : Int) (b : Int)) (comL (x.drop a) (x.drop b) : Int) := by
  have := common_l x a b hb ha hbl (x.length - a) 0 (by omega)
  rw [Nat.zero_add, Nat.add_zero, Nat.add_zero] at this
  exact Ev_as this fun k => rfl
theorem com_spec {x : List Int} (hx : Txt x) : ∀ d a b : Nat, a < x.length → b < x.length → x.length - a ≤ d → a ≠ b →
    a + comL (x.drop a) (x.drop b) < x.length ∧ b + comL (x.drop a) (x.drop b) < x.length ∧ (cmpS x a b < 0 ↔ x.getD (a + comL (x.drop a) (x.drop b)) 0 < x.getD (b + comL (x.drop a) (x.drop b)) 0) := by
  intro d
  induction d with
  | zero => intro a b ha hb hd; omega
  | succ d ih =>
    intro a b ha hb hd hne
    rw [cmpS_step x a b ha hb, drop_cons x a 0 ha, drop_cons x b 0 hb]
    unfold comL
    by_cases e : x.getD a 0 = x.getD b 0
    · obtain ⟨h5, h6⟩ := txt_eq hx ha hb hne e
      obtain ⟨h1, h2, h3⟩ := ih (a + 1) (b + 1) h5 h6 (by omega) (by omega)
      rw [if_pos e, if_neg (by omega), if_neg (by omega)]
      rw [show a + (comL (x.drop (a + 1)) (x.drop (b + 1)) + 1) = a + 1 + comL (x.drop (a + 1)) (x.drop (b + 1)) by omega, show b + (comL (x.drop (a + 1)) (x.drop (b + 1)) + 1) = b + 1 + comL (x.drop (a + 1)) (x.drop (b + 1)) by omega]
      exact ⟨h1, h2, h3⟩
    · rw [if_neg e]
      refine ⟨by omega, by omega, ?_⟩
      simp only [Nat.add_zero]
      by_cases h1 : x.getD a 0 < x.getD b 0
      · rw [if_pos h1]; exact ⟨fun _ => h1, fun _ => by decide⟩
      · rw [if_neg h1, if_pos (by omega)]; exact ⟨fun h => absurd h (by decide), fun h => absurd h h1⟩
theorem refLess {x : List Int} (hx : Txt x) (hb : x.length < 1000000) (a b : Nat) (ha : a < x.length) (hbl : b < x.length) : Ev (fun k => incipitref15_Less.f k x (a : Int) (b : Int)) (decide (cmpS x a b < 0)) := by
  unfold incipitref15_Less.f
  refine Ev.bind (common x a b hb (by omega) (by omega)) ?_
  by_cases e : a = b
  · subst e
    simp only [if_true]
    rw [cmpS_self]
    exact Ev.now _
  · obtain ⟨h1, h2, h3⟩ := com_spec hx x.length a b ha hbl (by omega) e
    generalize comL (x.drop a) (x.drop b) = n at h1 h2 h3
    have ea : wrap64 ((a : Int) + n) = ((a + n : Nat) : Int) := by rw [w_id] <;> omega
    have eb : wrap64 ((b : Int) + n) = ((b + n : Nat) : Int) := by rw [w_id] <;> omega
    refine Ev_eq fun k => ?_
    rw [if_neg (by omega), ea, eb, if_pos (by omega), if_pos (by omega), if_pos (by omega), if_pos (by omega), rd_nat, rd_nat]
    exact congrArg some (decide_eq_decide.2 h3.symm)

/-! ### kinds -/
def kindS (x : List Int) (i : Nat) : Bool := decide (i + 1 = x.length) || decide (cmpS x i (i + 1) < 0)
def kindsL (x : List Int) : List Bool := (List.range x.length).map (kindS x)
theorem kindsL_len (x : List Int) : (kindsL x).length = x.length := by simp [kindsL]
theorem kindsL_get (x : List Int) (i : Nat) (h : i < x.length) : (kindsL x).getD i false = kindS x i := by simp [kindsL, List.getD_eq_getElem?_getD, h]
theorem kindS_step {x : List Int} (hx : Txt x) (i : Nat) (h : i + 1 < x.length) : kindS x i = (decide (x.getD i 0 < x.getD (i + 1) 0) || decide (x.getD i 0 = x.getD (i + 1) 0) && kindS x (i + 1)) := by
  unfold kindS
  rw [decide_eq_false (show ¬ i + 1 = x.length by omega), cmpS_step x i (i + 1) (by omega) h]
  by_cases h1 : x.getD i 0 < x.getD (i + 1) 0
  · rw [if_pos h1, decide_eq_true h1]; simp
  · rw [if_neg h1, decide_eq_false h1]
    by_cases h2 : x.getD i 0 = x.getD (i + 1) 0
    · obtain ⟨_, h4⟩ := txt_eq hx (by omega) h (by omega) h2
      rw [if_neg (by omega), decide_eq_true h2, decide_eq_false (show ¬ i + 1 + 1 = x.length by omega)]; simp
    · rw [if_pos (by omega), decide_eq_false h2]; simp
theorem kinds_l {x : List Int} (hx : Txt x) (hb : x.length < 1000000) : ∀ d i : Nat, i + d = x.length → kdL (x.drop i) = (kindsL x).drop i := by
  intro d
  induction d with
  | zero =>
    intro i hi
    rw [List.drop_of_length_le (by omega), List.drop_of_length_le (by rw [kindsL_len]; omega)]
    rfl
  | succ d ih =>
    intro i hi
    rw [drop_cons x i 0 (by omega), drop_cons (kindsL x) i false (by rw [kindsL_len]; omega), kindsL_get x i (by omega), kdL, ih (i + 1) (by omega)]
    congr 1
    by_cases h : i + 1 < x.length
    · rw [drop_cons x (i + 1) 0 h, kindS_step hx i h, drop_cons (kindsL x) (i + 1) false (by rw [kindsL_len]; exact h), kindsL_get x (i + 1) h]
      rfl
    · rw [List.drop_of_length_le (l := x) (by omega)]
      unfold kindS
      rw [decide_eq_true (show i + 1 = x.length by omega)]
      rfl
theorem kinds {x : List Int} (hx : Txt x) (hb : x.length ≤ 65536) : Ev (fun k => suffix_kinds.f x) (kindsL x) := by
  have h1 : inKs .i64 x = true ∧ x.length ≤ 65536 := ⟨inKs_true fun z hz => by have := hx.rng z hz; exact (InK.of_i64 (x := z) (by omega) (by omega)).1, hb⟩
  have h2 := kinds_l hx (by omega) x.length 0 (by omega)
  rw [List.drop_zero, List.drop_zero] at h2
  exact Ev_eq fun k => by unfold suffix_kinds.f; rw [if_pos h1, h2]
theorem kindsK (x : List Int) (hb : x.length ≤ 65536) (hw : ∀ z ∈ x, (Lit.int .i64 z).wf = true) : Ev (fun k => suffix_Kinds.f k x) (if Txt x then (kindsL x, 0) else ([], chk x)) := by
  unfold suffix_Kinds.f
  refine Ev.bind (check x hb hw) ?_
  by_cases hx : Txt x
  · rw [if_pos hx]
    simp only [if_pos ((txt_iff x).2 hx)]
    exact Ev.bind (kinds hx hb) (Ev.now _)
  · rw [if_neg hx]
    simp only [if_neg (fun h => hx ((txt_iff x).1 h))]
    exact Ev.now _

theorem refKinds_l {x : List Int} (hx : Txt x) (hb : x.length < 1000000) : ∀ d i : Nat, i + d = x.length → Ev (fun k => incipitref15_Kinds.l0 k x ((kindsL x).take i) (i : Int)) (kindsL x) := by
  intro d
  induction d with
  | zero =>
    intro i hi
    rw [List.take_of_length_le (by rw [kindsL_len]; omega)]
    exact Ev_now fun k => by simp only [incipitref15_Kinds.l0]; rw [if_neg (by omega)]
  | succ d ih =>
    intro i hi
    have hp := hx.pos
    have el : wrap64 ((x.length : Int) - 1) = ((x.length - 1 : Nat) : Int) := by rw [w_id] <;> omega
    have h := ih (i + 1) (by omega)
    rw [take_succ_getD _ i false (by rw [kindsL_len]; omega), kindsL_get x i (by omega)] at h
    have hlen : ((kindsL x).take i).length < 140737488355328 := by rw [List.length_take, kindsL_len]; omega
    by_cases e : i + 1 = x.length
    · refine Ev_to h fun k => ?_
      simp only [incipitref15_Kinds.l0]
      rw [if_pos (by omega), el, if_pos (by omega), if_pos hlen, w_succ i (by omega), show kindS x i = true by unfold kindS; rw [decide_eq_true e]; rfl]
    · have hl := refLess hx hb i (i + 1) (by omega) (by omega)
      have hk : kindS x i = decide (cmpS x i (i + 1) < 0) := by unfold kindS; rw [decide_eq_false e]; rfl
      rw [hk] at h
      refine Ev_to (f := fun k => (incipitref15_Less.f k x (i : Int) ((i + 1 : Nat) : Int)).bind fun t => (if ((kindsL x).take i).length < 140737488355328 then incipitref15_Kinds.l0 k x ((kindsL x).take i ++ [t]) ((i + 1 : Nat) : Int) else none)) (Ev.bind hl (by simp only [if_pos hlen]; exact h)) fun k => ?_
      simp only [incipitref15_Kinds.l0]
      rw [if_pos (by omega), el, if_neg (by omega), w_succ i (by omega)]
theorem refKinds {x : List Int} (hx : Txt x) (hb : x.length < 1000000) : Ev (fun k => incipitref15_Kinds.f k x) (kindsL x) := refKinds_l hx hb x.length 0 (by omega)

/-! ### the first ones -/
def firstAt (ks : List Bool) (i : Nat) : Bool := decide (1 ≤ i) && ks.getD i false && !ks.getD (i - 1) false
def firstsOf (ks : List Bool) (m : Nat) : List Int := ((List.range m).filter (firstAt ks)).map Int.ofNat
theorem firstsOf_succ (ks : List Bool) (m : Nat) : firstsOf ks (m + 1) = firstsOf ks m ++ (if firstAt ks m = true then [(m : Int)] else []) := by
  unfold firstsOf
  rw [List.range_succ, List.filter_append, List.map_append]
  by_cases h : firstAt ks m = true
  · simp [h]
  · simp [h]
theorem firstsOf_len (ks : List Bool) (m : Nat) : (firstsOf ks m).length ≤ m := by
  unfold firstsOf
  rw [List.length_map]
  have := List.length_filter_le (firstAt ks) (List.range m)
  rwa [List.length_range] at this
theorem firsts_l (ks : List Bool) (hb : ks.length < 1000000) : ∀ d i : Nat, i + d = ks.length → Ev (fun k => suffix_Firsts.l0 k ks (firstsOf ks i) (ks.length : Int) (i : Int)) (firstsOf ks ks.length, 0) := by
  intro d
  induction d with
  | zero =>
    intro i hi
    rw [show i = ks.length by omega]
    exact Ev_now fun k => by simp only [suffix_Firsts.l0]; rw [if_neg (by omega)]
  | succ d ih =>
    intro i hi
    have h := ih (i + 1) (by omega)
    rw [firstsOf_succ] at h
    have hlen := firstsOf_len ks i
    have hr : rdOf false ks (i : Int) = ks.getD i false := rfl
    refine Ev_to h fun k => ?_
    simp only [suffix_Firsts.l0]
    rw [if_pos (by omega), w_succ i (by omega)]
    by_cases h0 : i = 0
    · subst h0
      rw [if_pos (by omega), if_neg (by unfold firstAt; simp), List.append_nil]
    · have e1 : wrap64 ((i : Int) - 1) = ((i - 1 : Nat) : Int) := by rw [w_id] <;> omega
      have hr1 : rdOf false ks ((i - 1 : Nat) : Int) = ks.getD (i - 1) false := rfl
      rw [if_neg (by omega), if_pos (by omega), if_pos (by omega), hr, e1, hr1]
      unfold firstAt
      rw [decide_eq_true (show 1 ≤ i by omega)]
      cases hk : ks.getD i false with
      | false => simp
      | true =>
        rw [if_pos rfl, if_pos (by omega), if_pos (by omega)]
        cases hk1 : ks.getD (i - 1) false with
        | true => simp
        | false => rw [if_neg (by decide), if_pos (by omega)]; simp
def firstsL (x : List Int) : List Int := firstsOf (kindsL x) x.length
theorem firsts (x : List Int) (hb : x.length ≤ 65536) (hw : ∀ z ∈ x, (Lit.int .i64 z).wf = true) : Ev (fun k => suffix_Firsts.f k x) (if Txt x then (firstsL x, 0) else ([], chk x)) := by
  unfold suffix_Firsts.f
  refine Ev.bind (kindsK x hb hw) ?_
  by_cases h : Txt x
  · simp only [if_pos h, if_true]
    have := firsts_l (kindsL x) (by rw [kindsL_len]; omega) (kindsL x).length 0 (by omega)
    unfold firstsL
    rw [kindsL_len] at this ⊢
    exact this
  · simp only [if_neg h, if_neg (fun e => h ((txt_iff x).1 e))]
    exact Ev.now _
theorem refFirsts_l (ks : List Bool) (hb : ks.length < 1000000) : ∀ d i : Nat, i + d = ks.length → 1 ≤ i → Ev (fun k => incipitref15_Firsts.l0 k ks (firstsOf ks i) (i : Int)) (firstsOf ks ks.length) := by
  intro d
  induction d with
  | zero =>
    intro i hi h1
    rw [show i = ks.length by omega]
    exact Ev_now fun k => by simp only [incipitref15_Firsts.l0]; rw [if_neg (by omega)]
  | succ d ih =>
    intro i hi h1
    have h := ih (i + 1) (by omega) (by omega)
    rw [firstsOf_succ] at h
    have hlen := firstsOf_len ks i
    have hr : rdOf false ks (i : Int) = ks.getD i false := rfl
    have e1 : wrap64 ((i : Int) - 1) = ((i - 1 : Nat) : Int) := by rw [w_id] <;> omega
    have hr1 : rdOf false ks ((i - 1 : Nat) : Int) = ks.getD (i - 1) false := rfl
    refine Ev_to h fun k => ?_
    simp only [incipitref15_Firsts.l0]
    rw [if_pos (by omega), if_pos (by omega), w_succ i (by omega), hr, e1, hr1]
    unfold firstAt
    rw [decide_eq_true h1]
    cases hk : ks.getD i false with
    | false => simp
    | true =>
      rw [if_pos rfl, if_pos (by omega), if_pos (by omega)]
      cases hk1 : ks.getD (i - 1) false with
      | true => simp
      | false => rw [if_neg (by decide), if_pos (by omega)]; simp
theorem refFirsts {x : List Int} (hx : Txt x) (hb : x.length < 1000000) : Ev (fun k => incipitref15_Firsts.f k x) (firstsL x) := by
  unfold incipitref15_Firsts.f
  refine Ev.bind (refKinds hx hb) ?_
  have hp := hx.pos
  have := refFirsts_l (kindsL x) (by rw [kindsL_len]; omega) (x.length - 1) 1 (by rw [kindsL_len]; omega) (by omega)
  rw [kindsL_len] at this
  exact this


/-! ### a number in a rising row -/
theorem firstsL_lt (x : List Int) : (firstsL x).Pairwise (· < ·) := by
  unfold firstsL firstsOf
  rw [List.pairwise_map]
  exact (List.pairwise_lt_range.filter _).imp fun h => Int.ofNat_lt.2 h
theorem firstsL_mem {x : List Int} {z : Int} (h : z ∈ firstsL x) : ∃ a : Nat, z = (a : Int) ∧ a < x.length := by
  unfold firstsL firstsOf at h
  obtain ⟨a, ha, rfl⟩ := List.mem_map.1 h
  exact ⟨a, rfl, List.mem_range.1 (List.mem_filter.1 ha).1⟩
theorem firstsL_len (x : List Int) : (firstsL x).length ≤ x.length := firstsOf_len _ _
/-! ### the law -/

/-! ### the document's order -/
abbrev toI (o : List Nat) : List Int := o.map Int.ofNat
theorem toI_getD (o : List Nat) (i : Nat) (h : i < o.length) : (toI o).getD i 0 = ((o.getD i 0 : Nat) : Int) := by simp [List.getD_eq_getElem?_getD, h]
theorem refSort_l1 {x : List Int} (hx : Txt x) (hb : x.length ≤ 65536) (o : List Nat) (v : Nat) (hv : v < x.length) (ho : ∀ z ∈ o, z < x.length) (hol : o.length < 1000000) (r : List Int) : ∀ d j : Nat, j + d = o.length →
    Ev (fun k => incipitref15_Sort.l0 k x (toI (o.take j ++ insS x v (o.drop j))) ((v + 1 : Nat) : Int)) r → Ev (fun k => incipitref15_Sort.l1 k x (toI o) (v : Int) (j : Int)) r := by
  intro d
  have hlen : (toI o).length = o.length := List.length_map _
  induction d with
  | zero =>
    intro j hj h
    rw [List.drop_of_length_le (by omega), List.take_of_length_le (by omega)] at h
    refine Ev_to h fun k => ?_
    simp only [incipitref15_Sort.l1]
    rw [if_neg (by rw [hlen]; omega)]
    simp only [Option.bind_some, Int.toNat_natCast, List.nil_append]
    have e1 : (toI o).take j = toI o := List.take_of_length_le (by rw [hlen]; omega)
    have e2 : (toI o).drop j = [] := List.drop_of_length_le (by rw [hlen]; omega)
    rw [e1, e2, if_pos (by omega), if_pos (by rw [hlen]; omega), if_pos (by simp; omega), if_pos (by simp; omega), if_pos (by simp; omega), w_succ v (by omega)]
    unfold insS toI
    simp
  | succ d ih =>
    intro j hj h
    have hget := toI_getD o j (by omega)
    have hz := ho _ (getD_mem o j 0 (by omega))
    have hl := refLess hx (by omega) (o.getD j 0) v hz hv
    rw [drop_cons o j 0 (by omega)] at h
    unfold insS at h
    by_cases hc : cmpS x (o.getD j 0) v < 0
    · rw [if_pos hc] at h
      rw [decide_eq_true hc] at hl
      have h2 := ih (j + 1) (by omega) (by rw [take_succ_getD o j 0 (by omega), List.append_assoc, List.singleton_append]; exact h)
      refine Ev.step (f := ?fa) ?ha ?ea
      case ha =>
        intro k
        simp only [incipitref15_Sort.l1]
        rw [if_pos (by rw [hlen]; omega), if_pos (by omega), rd_nat, hget]
      case ea =>
        refine Ev.bind hl ?_
        simp only [if_true, w_succ j (show j < 4611686018427387904 by omega)]
        exact h2
    · rw [if_neg hc] at h
      rw [decide_eq_false hc] at hl
      refine Ev.step (f := ?fb) ?hb ?eb
      case hb =>
        intro k
        simp only [incipitref15_Sort.l1]
        rw [if_pos (by rw [hlen]; omega), if_pos (by omega), rd_nat, hget]
      case eb =>
        refine Ev.bind hl ?_
        simp only [if_neg (show ¬ false = true by decide), Option.bind_some, Int.toNat_natCast, List.nil_append]
        have e1 : (toI o).take j = toI (o.take j) := List.map_take.symm
        have e2 : (toI o).drop j = toI (o.drop j) := List.map_drop.symm
        rw [e1, e2]
        refine Ev_as h fun k => ?_
        rw [if_pos (by rw [hlen]; omega), if_pos (by simp; omega), if_pos (by simp; omega), if_pos (by simp; omega), w_succ v (by omega)]
        rw [← drop_cons o j 0 (by omega)]
        simp [toI]
theorem refSort_l0 {x : List Int} (hx : Txt x) (hb : x.length ≤ 65536) : ∀ d i : Nat, i + d = x.length → Ev (fun k => incipitref15_Sort.l0 k x (toI (sortN x i)) (i : Int)) (sortS x) := by
  intro d
  induction d with
  | zero =>
    intro i hi
    rw [show i = x.length by omega]
    exact Ev_now fun k => by simp only [incipitref15_Sort.l0]; rw [if_neg (by omega)]; rfl
  | succ d ih =>
    intro i hi
    have hlen := sortN_len x i
    have h := refSort_l1 hx hb (sortN x i) i (by omega) (fun z hz => by have := (sortN_mem x i z).1 hz; omega) (by omega) (sortS x) (sortN x i).length 0 (by omega) (ih (i + 1) (by omega))
    exact Ev_to h fun k => by simp only [incipitref15_Sort.l0]; rw [if_pos (by omega)]; rfl
theorem refSort {x : List Int} (hx : Txt x) (hb : x.length ≤ 65536) : Ev (fun k => incipitref15_Sort.f k x) (sortS x) := refSort_l0 hx hb x.length 0 (by omega)

/-! ### how much is alike -/

theorem bad_iff {c : Int} : badCode c = true ↔ c < 0 ∨ 65536 ≤ c := by unfold badCode; simp
def chk2 (l : List Int) : Int := if Txt l then 0 else 3
theorem refCheck_l1 {l : List Int} (hb : l.length ≤ 65536) (hr : ∀ x ∈ l, 0 ≤ x ∧ x < 65536) : ∀ d i : Nat, i + d = l.length → (∀ j, j < i → (l.getD j 0 = 0 ↔ j + 1 = l.length)) → Ev (fun k => incipitref15_Check.l1 k l (i : Int)) (chk2 l) := by
  intro d
  induction d with
  | zero =>
    intro i hi h
    refine Ev_now fun k => ?_
    simp only [incipitref15_Check.l1]
    rw [if_neg (by omega)]
    unfold chk2
    by_cases h0 : l.length = 0
    · rw [if_pos (by omega), if_neg (fun hT => by have := hT.pos; omega)]
    · rw [if_neg (by omega), if_pos ⟨hr, fun j hj => h j (by omega), by omega⟩]
  | succ d ih =>
    intro i hi h
    have el : wrap64 ((l.length : Int) - 1) = ((l.length - 1 : Nat) : Int) := by rw [w_id] <;> omega
    have e1 : ((i : Int) == ((l.length - 1 : Nat) : Int)) = decide (i + 1 = l.length) := by
      by_cases e : i + 1 = l.length
      · rw [decide_eq_true e]; simp; omega
      · rw [decide_eq_false e]; simp; omega
    by_cases e : l.getD i 0 = 0 ↔ i + 1 = l.length
    · refine Ev_to (ih (i + 1) (by omega) fun j hj => ?_) fun k => ?_
      · by_cases e2 : j = i
        · rw [e2]; exact e
        · exact h j (by omega)
      · simp only [incipitref15_Check.l1]
        rw [if_pos (by omega), if_pos (by omega), el, e1, rd_nat, if_neg ?_, w_succ i (by omega)]
        rw [show ((l.getD i 0 == 0) = decide (i + 1 = l.length)) from by
          by_cases e3 : l.getD i 0 = 0
          · rw [decide_eq_true (e.1 e3), e3]; rfl
          · rw [decide_eq_false (fun h => e3 (e.2 h))]; simpa using e3]
        simp
    · refine Ev_now fun k => ?_
      simp only [incipitref15_Check.l1]
      rw [if_pos (by omega), if_pos (by omega), el, e1, rd_nat, if_pos ?_]
      · unfold chk2
        rw [if_neg (fun hT => e (hT.last i (by omega)))]
      · by_cases e3 : l.getD i 0 = 0
        · by_cases e4 : i + 1 = l.length
          · exact absurd ⟨fun _ => e4, fun _ => e3⟩ e
          · rw [e3, decide_eq_false e4]; rfl
        · by_cases e4 : i + 1 = l.length
          · rw [decide_eq_true e4]
            have : (l.getD i 0 == 0) = false := by simpa using e3
            rw [this]; rfl
          · exact absurd ⟨fun h => absurd h e3, fun h => absurd h e4⟩ e
theorem chk_eq (l : List Int) : chk l = if l.any badCode = true then 10 else chk2 l := by
  by_cases h : l.any badCode = true
  · rw [if_pos h]; unfold chk; rw [if_pos h]
  · rw [if_neg h]
    unfold chk2
    by_cases hT : Txt l
    · rw [if_pos hT, (txt_iff l).2 hT]
    · rw [if_neg hT]
      have hn : chk l ≠ 0 := fun e => hT ((txt_iff l).1 e)
      unfold chk at hn ⊢
      rw [if_neg h] at hn ⊢
      by_cases h3 : (if (0 : Int) ∈ l then (l.idxOf 0 : Int) else -1) = (l.length : Int) - 1
      · rw [if_pos h3] at hn ⊢
        by_cases h0 : l.length = 0
        · rw [if_pos h0]
        · rw [if_neg h0] at hn; exact absurd rfl hn
      · rw [if_neg h3]
theorem rng_of {l : List Int} (h : ¬ l.any badCode = true) : ∀ x ∈ l, 0 ≤ x ∧ x < 65536 := fun x hx => Classical.byContradiction fun hn => h (List.any_eq_true.2 ⟨x, hx, by unfold badCode; simp; omega⟩)
theorem refCheck_l0 {l : List Int} (hb : l.length ≤ 65536) : ∀ d i : Nat, i + d = l.length → (l.take i).any badCode = false → Ev (fun k => incipitref15_Check.l0 k l (i : Int)) (chk l) := by
  intro d
  induction d with
  | zero =>
    intro i hi h
    rw [List.take_of_length_le (by omega)] at h
    rw [chk_eq, if_neg (by rw [h]; decide)]
    exact Ev_to (refCheck_l1 hb (rng_of (by rw [h]; decide)) l.length 0 (by omega) (fun j hj => absurd hj (by omega))) fun k => by
      simp only [incipitref15_Check.l0]
      rw [if_neg (by omega)]; rfl
  | succ d ih =>
    intro i hi h
    have hbad : badCode (l.getD i 0) = true → chk l = 10 := fun hbd => by
      rw [chk_eq, if_pos (List.any_eq_true.2 ⟨_, getD_mem l i 0 (by omega), hbd⟩)]
    by_cases h1 : l.getD i 0 < 0
    · rw [hbad (bad_iff.2 (.inl h1))]
      exact Ev_now fun k => by
        simp only [incipitref15_Check.l0]
        rw [if_pos (by omega), if_pos (by omega), rd_nat, if_pos h1]
    · by_cases h2 : l.getD i 0 > 65535
      · rw [hbad (bad_iff.2 (.inr (by omega)))]
        exact Ev_now fun k => by
          simp only [incipitref15_Check.l0]
          rw [if_pos (by omega), if_pos (by omega), rd_nat, if_neg h1, if_pos h2]
      · refine Ev_to (ih (i + 1) (by omega) ?_) fun k => ?_
        · rw [take_succ_getD l i 0 (by omega), List.any_append, h, List.any_cons, List.any_nil, Bool.or_false, Bool.false_or]
          exact Bool.eq_false_iff.2 fun h => by have := bad_iff.1 h; omega
        · simp only [incipitref15_Check.l0]
          rw [if_pos (by omega), if_pos (by omega), rd_nat, if_neg h1, if_neg h2, w_succ i (by omega)]
theorem refCheck (l : List Int) (hb : l.length ≤ 65536) : Ev (fun k => incipitref15_Check.f k l) (chk l) :=
  Ev_as (refCheck_l0 hb l.length 0 (by omega) rfl) fun k => by unfold incipitref15_Check.f; rw [if_neg (by omega)]; rfl

theorem known_mono : ∀ k, LeO (incipitlaw16_known.f k) (incipitlaw16_known.f (k + 1)) := incipitlaw16_known.mono
set_option maxRecDepth 100000 in
theorem known : Ev (fun k => incipitlaw16_known.f k) true := Ev.of known_mono (k := 60) (by kernel_rfl)

theorem codes_of {x : List Int} (hx : Txt x) (hb : x.length ≤ 65536) : CodesP x := ⟨hx.pos, hb, fun y hy => by have := hx.rng y hy; omega⟩

theorem tx_of {x : List Int} (hx : Txt x) : Ind.Tx x := ⟨hx.pos, (hx.last _ (by have := hx.pos; omega)).2 (by have := hx.pos; omega), fun i hi => by
  have h1 := hx.rng _ (getD_mem x i 0 (by omega))
  have h2 := hx.last i (by omega)
  omega⟩
/-- The first Ss' places. -/
def firstsN (x : List Int) : List Nat := (List.range x.length).filter (firstAt (kindsL x))
theorem firstsN_I (x : List Int) : firstsL x = (firstsN x).map Int.ofNat := rfl
theorem firstAt_lms (x : List Int) (i : Nat) (h : i < x.length) : firstAt (kindsL x) i = Ind.lms x i := by
  unfold firstAt Ind.lms
  rw [kindsL_get x i h, kindsL_get x (i - 1) (by omega)]
  rfl
theorem mem_firstsN (x : List Int) (i : Nat) : i ∈ firstsN x ↔ i < x.length ∧ Ind.lms x i = true := by
  unfold firstsN
  rw [List.mem_filter, List.mem_range]
  constructor
  · rintro ⟨h1, h2⟩; exact ⟨h1, by rw [← firstAt_lms x i h1]; exact h2⟩
  · rintro ⟨h1, h2⟩; exact ⟨h1, by rw [firstAt_lms x i h1]; exact h2⟩
theorem firstsN_lt (x : List Int) : (firstsN x).Pairwise (· < ·) := List.Pairwise.filter _ List.pairwise_lt_range
theorem firsts_ok (x : List Int) : Ind.Firsts x (firstsN x) := ⟨firstsN_lt x, mem_firstsN x⟩
theorem mem_firstsL (x : List Int) (i : Nat) : (i : Int) ∈ firstsL x ↔ i < x.length ∧ Ind.lms x i = true := by
  rw [firstsN_I, ← mem_firstsN]
  constructor
  · intro h
    obtain ⟨j, hj, e⟩ := List.mem_map.1 h
    have : j = i := by have : (j : Int) = (i : Int) := e; omega
    exact this ▸ hj
  · intro h; exact List.mem_map.2 ⟨i, h, rfl⟩
theorem firstsL_nodup (x : List Int) : (firstsL x).Nodup := by
  rw [List.nodup_iff_pairwise_ne]
  exact (firstsL_lt x).imp fun h => by omega
theorem fsP_of {x l : List Int} (hx : Txt x) (hb : x.length ≤ 65536) (h2 : 2 ≤ x.length) (hp : l.Perm (firstsL x)) : FsP x l := by
  have hlen := firstsL_len x
  have hpl := hp.length_eq
  refine ⟨by omega, fun e => ?_, hp.nodup_iff.2 (firstsL_nodup x), fun z hz => ?_, fun i _ hi => ?_⟩
  · have := (Ind.Firsts.last (tx_of hx) h2 (firsts_ok x)).1
    rw [e] at hpl
    rw [firstsN_I, List.length_map] at hpl
    simp at hpl
    omega
  · obtain ⟨a, rfl, ha⟩ := firstsL_mem (hp.mem_iff.1 hz)
    have := (mem_firstsL x a).1 (hp.mem_iff.1 hz)
    exact ⟨by omega, by simpa using ha, by simpa using this.2⟩
  · exact hp.mem_iff.2 ((mem_firstsL x i).2 ⟨by have := List.mem_range.1 ‹_›; exact this, hi⟩)
/-- The order that comes of first Ss. -/
def indL (x l : List Int) : List Int := if x.length = 1 then [0] else Ind.ind x (l.map Int.toNat)
theorem induced {x l : List Int} (hx : Txt x) (hb : x.length ≤ 65536) (hp : l.Perm (firstsL x)) : Ev (fun k => induce_induced.f k x l) (indL x l) := by
  unfold induce_induced.f indL
  by_cases h1 : x.length = 1
  · simp only [if_pos h1]
    exact Ev.now _
  · have h2 : 2 ≤ x.length := by have := hx.pos; omega
    simp only [if_neg h1]
    refine Ev.bind (kindsK x hb (txt_wf hx)) ?_
    rw [if_pos hx]
    have hpre : IndPre x l (kindsL x) 0 := ⟨h2, codes_of hx hb, ⟨(tx_of hx).last, fun i _ hi => (tx_of hx).mid i hi⟩, fsP_of hx hb h2 hp, rfl, rfl⟩
    simp only [if_pos hpre]
    exact Ev.now _

theorem pcIx_get {f : List Nat} (hU : f.Pairwise (· < ·)) (b : Nat) (hb : b < f.length) : pcIx f (f.getD b 0 : Int) = some b := by
  cases h : pcIx f (f.getD b 0 : Int) with
  | none =>
    exact absurd rfl (pcIx_none h (f.getD b 0) (by rw [List.getD_eq_getElem?_getD, List.getElem?_eq_getElem hb]; exact List.getElem_mem hb))
  | some a =>
    obtain ⟨ha, e⟩ := pcIx_some h
    have e : f.getD a 0 = f.getD b 0 := by omega
    congr 1
    rcases Nat.lt_trichotomy a b with h1 | h1 | h1
    · have := List.pairwise_iff_getElem.1 hU a b ha hb h1
      simp [List.getD_eq_getElem?_getD, ha, hb] at e
      omega
    · exact h1
    · have := List.pairwise_iff_getElem.1 hU b a hb ha h1
      simp [List.getD_eq_getElem?_getD, ha, hb] at e
      omega
/-- The first Ss along an order, by their numbers. -/
def ixs (f : List Nat) (o : List Int) : List Nat := o.filterMap (pcIx f)
theorem ixs_lt {f : List Nat} {o : List Int} : ∀ a ∈ ixs f o, a < f.length := fun a ha => by
  obtain ⟨z, _, h⟩ := List.mem_filterMap.1 ha
  exact (pcIx_some h).1
theorem go_keys (x : List Int) (f : List Nat) (q : List Nat) (m : Nat) (p : Option Nat) : ∀ e ∈ Ind.nameGo x f q m p, e.1 ∈ q := fun e he => by
  rw [← Ind.nameGo_fst x f q m p]
  exact List.mem_map.2 ⟨e, he, rfl⟩
/-- Names on the way, and where the row of names stands. -/
def NmRel (x : List Int) (f : List Nat) (s : NmS) (m : Nat) : Option Nat → Prop
  | none => s.n = 0 ∧ m = 0
  | some b => s.n = m + 1 ∧ s.ahead = Ind.pieceN x f b
theorem nm_go (x : List Int) (f : List Nat) : ∀ (o : List Int) (s : NmS) (m : Nat) (p : Option Nat), NmRel x f s m p → (ixs f o).Nodup →
    (∀ e ∈ Ind.nameGo x f (ixs f o) m p, (o.foldl (nmStep x f) s).nm (f.getD e.1 0 : Int) = some (e.2 : Int)) ∧ (∀ y, (∀ a ∈ ixs f o, (f.getD a 0 : Int) ≠ y) → (o.foldl (nmStep x f) s).nm y = s.nm y)
  | [], s, m, p, _, _ => ⟨fun e he => by simp [ixs, Ind.nameGo] at he, fun y _ => rfl⟩
  | z :: o, s, m, p, hr, hn => by
    rw [List.foldl_cons]
    cases hix : pcIx f z with
    | none =>
      have e1 : ixs f (z :: o) = ixs f o := by unfold ixs; rw [List.filterMap_cons, hix]
      have e2 : nmStep x f s z = s := by unfold nmStep; rw [hix]
      rw [e1] at hn ⊢
      rw [e2]
      exact nm_go x f o s m p hr hn
    | some k =>
      obtain ⟨hk, hz⟩ := pcIx_some hix
      have e1 : ixs f (z :: o) = k :: ixs f o := by unfold ixs; rw [List.filterMap_cons, hix]
      rw [e1] at hn ⊢
      obtain ⟨hn1, hn2⟩ := List.nodup_cons.1 hn
      have e2 : nmStep x f s z = ⟨if s.n = 0 ∨ Ind.pieceN x f k ≠ s.ahead then s.n + 1 else s.n, Ind.pieceN x f k, fun y => if y = z then some (((if s.n = 0 ∨ Ind.pieceN x f k ≠ s.ahead then s.n + 1 else s.n : Nat) : Int) - 1) else s.nm y⟩ := by unfold nmStep; rw [hix]
      -- the name that comes
      have main : ∀ m', (if s.n = 0 ∨ Ind.pieceN x f k ≠ s.ahead then s.n + 1 else s.n) = m' + 1 → Ind.nameGo x f (k :: ixs f o) m p = (k, m') :: Ind.nameGo x f (ixs f o) m' (some k) →
          (∀ e ∈ Ind.nameGo x f (k :: ixs f o) m p, (o.foldl (nmStep x f) (nmStep x f s z)).nm (f.getD e.1 0 : Int) = some (e.2 : Int)) ∧ (∀ y, (∀ a ∈ k :: ixs f o, (f.getD a 0 : Int) ≠ y) → (o.foldl (nmStep x f) (nmStep x f s z)).nm y = s.nm y) := by
        intro m' hm' hg
        rw [e2, hm']
        obtain ⟨i1, i2⟩ := nm_go x f o ⟨m' + 1, Ind.pieceN x f k, fun y => if y = z then some (((m' + 1 : Nat) : Int) - 1) else s.nm y⟩ m' (some k) ⟨rfl, rfl⟩ hn2
        rw [hg]
        constructor
        · intro e he
          rcases List.mem_cons.1 he with rfl | he
          · rw [i2 _ fun a ha e3 => ?_]
            · show (if (f.getD k 0 : Int) = z then _ else _) = _
              rw [if_pos hz]
              simp
            · have ha1 := ixs_lt a ha
              have e3 : (f.getD a 0 : Int) = (f.getD k 0 : Int) := e3
              have e3 : f.getD a 0 = f.getD k 0 := by omega
              refine hn1 ?_
              have e4 : pcIx f (f.getD a 0 : Int) = pcIx f (f.getD k 0 : Int) := by rw [e3]
              obtain ⟨z2, hz2, h2⟩ := List.mem_filterMap.1 ha
              have hz3 := (pcIx_some h2).2
              rw [e3, hz] at hz3
              rw [← hz3, hix] at h2
              cases h2
              exact ha
          · exact i1 e he
        · intro y hy
          rw [i2 y fun a ha => hy a (List.mem_cons_of_mem _ ha)]
          show (if y = z then _ else _) = _
          rw [if_neg (fun e => hy k (by simp) (by rw [hz, e]))]
      cases p with
      | none =>
        obtain ⟨h0, rfl⟩ := hr
        exact main 0 (by rw [if_pos (.inl h0)]; omega) rfl
      | some b =>
        obtain ⟨h0, h1⟩ := hr
        by_cases hp : Ind.pieceN x f k = Ind.pieceN x f b
        · exact main m (by rw [if_neg (by rw [h1]; rintro (h | h); omega; exact h hp)]; exact h0) (by rw [Ind.nameGo, if_pos hp])
        · exact main (m + 1) (by rw [if_pos (.inr (by rw [h1]; exact hp))]; omega) (by rw [Ind.nameGo, if_neg hp])

/-- The first Ss along the order that is induced of first Ss. -/
theorem ixs_ind {x : List Int} (hx : Ind.Tx x) (h2 : 2 ≤ x.length) {f firsts : List Nat} (hf : Ind.Firsts x f) (hn : firsts.Nodup) (hm : ∀ i, i ∈ firsts ↔ i < x.length ∧ Ind.lms x i = true) :
    (ixs f (Ind.ind x firsts)).Perm (List.range f.length) ∧ (ixs f (Ind.ind x firsts)).Pairwise (fun b c => ¬ Ind.cmpL (Ind.pieceN x f c) (Ind.pieceN x f b) < 0) := by
  obtain ⟨l, hl, hp, hs⟩ := Ind.order_list (Ind.ind_ok hx h2 hn hm)
  have hU := hf.up
  have hpw : (ixs f (Ind.ind x firsts)).Pairwise fun b c => Ind.slot (Ind.ind x firsts) (f.getD b 0) < Ind.slot (Ind.ind x firsts) (f.getD c 0) := by
    unfold ixs
    rw [hl, List.filterMap_map, List.pairwise_filterMap, ← hl]
    refine hs.imp fun {i j} hij b hb c hc => ?_
    have h3 := (pcIx_some (show pcIx f (Int.ofNat i) = some b from hb)).2
    have h4 := (pcIx_some (show pcIx f (Int.ofNat j) = some c from hc)).2
    have e3 : f.getD b 0 = i := by have : ((f.getD b 0 : Nat) : Int) = (i : Int) := h3; omega
    have e4 : f.getD c 0 = j := by have : ((f.getD c 0 : Nat) : Int) = (j : Int) := h4; omega
    rw [e3, e4]
    exact hij
  constructor
  · refine (List.perm_ext_iff_of_nodup ?_ List.nodup_range).2 fun a => ?_
    · rw [List.nodup_iff_pairwise_ne]
      exact hpw.imp fun h e => by rw [e] at h; omega
    · rw [List.mem_range]
      constructor
      · exact ixs_lt a
      · intro ha
        refine List.mem_filterMap.2 ⟨(f.getD a 0 : Int), ?_, pcIx_get hU a ha⟩
        rw [hl]
        exact List.mem_map.2 ⟨f.getD a 0, hp.mem_iff.2 (List.mem_range.2 (hf.get ha).1), rfl⟩
  · have hlt := @ixs_lt f (Ind.ind x firsts)
    refine hpw.imp_of_mem fun {b c} hb hc hbc hcm => ?_
    have hb' := hlt b hb
    have hc' := hlt c hc
    have := Ind.ind_pieces hx h2 hn hm (hf.get hc').1 (hf.get hb').1 (by rw [Ind.zc_piece hx h2 hf hc' hb']; exact hcm)
    omega
/-- The names by places. -/
def nmsL (x : List Int) (f : List Nat) (o : List Int) : List Int := f.map fun (i : Nat) => ((nmAll x f o).nm (i : Int)).getD 0
theorem nmsL_len (x : List Int) (f : List Nat) (o : List Int) : (nmsL x f o).length = f.length := by simp [nmsL]
theorem nmsL_named {x : List Int} (hx : Ind.Tx x) (h2 : 2 ≤ x.length) {f firsts : List Nat} (hf : Ind.Firsts x f) (hn : firsts.Nodup) (hm : ∀ i, i ∈ firsts ↔ i < x.length ∧ Ind.lms x i = true) : Ind.Named x f (nmsL x f (Ind.ind x firsts)) := by
  obtain ⟨hp, hr⟩ := ixs_ind hx h2 hf hn hm
  have hnd := hp.nodup_iff.2 List.nodup_range
  refine Ind.names_ok hx h2 hf hp hr (nmsL_len _ _ _) fun e he => ?_
  have h3 := (nm_go x f (Ind.ind x firsts) ⟨0, [], fun _ => none⟩ 0 none ⟨rfl, rfl⟩ hnd).1 e he
  have h4 := ixs_lt e.1 (go_keys x f _ 0 none e he)
  unfold nmsL
  rw [List.getD_eq_getElem?_getD, List.getElem?_map, List.getElem?_eq_getElem h4, Option.map_some, Option.getD_some]
  have h5 : f.getD e.1 0 = f[e.1] := by rw [List.getD_eq_getElem?_getD, List.getElem?_eq_getElem h4]; rfl
  rw [h5] at h3
  show ((nmAll x f (Ind.ind x firsts)).nm (f[e.1] : Int)).getD 0 = _
  unfold nmAll
  rw [h3]
  rfl
theorem nmsL_rng (x : List Int) (f : List Nat) (o : List Int) (hl : o.length ≤ 65535) : ∀ z ∈ nmsL x f o, 0 ≤ z ∧ z < 65536 := fun z hz => by
  obtain ⟨i, _, rfl⟩ := List.mem_map.1 hz
  have := nmAll_rng x f o o.length (Nat.le_refl _)
  rw [List.take_length] at this
  cases h : (nmAll x f o).nm (i : Int) with
  | none => simp
  | some v =>
    have := this _ _ h
    simp only [Option.getD_some]
    omega


theorem firstsL_nat (x : List Int) : (firstsL x).map Int.toNat = firstsN x := by
  rw [firstsN_I, List.map_map, List.map_congr_left (g := id) fun i _ => by simp, List.map_id]
theorem named {x : List Int} (hx : Txt x) (hb : x.length ≤ 65536) (o : List Int) (ho : ∀ z ∈ o, (Lit.int .i64 z).wf = true) (hol : o.length ≤ 65536) : Ev (fun k => induce_named.f k x o) (nmsL x (firstsN x) o, ((nmAll x (firstsN x) o).n : Int)) := by
  have hlen := firstsL_len x
  unfold induce_named.f
  refine Ev.bind (firsts x hb (txt_wf hx)) ?_
  rw [if_pos hx]
  have hok : induce_named.ok x o (firstsL x) 0 := ⟨codes_of hx hb, inKs_true ho, hol, rfl, firstsL_lt x, fun z hz => by obtain ⟨a, rfl, ha⟩ := firstsL_mem hz; omega, by omega⟩
  simp only [if_pos hok, firstsL_nat]
  exact Ev.now _
theorem indL_wf {x l : List Int} (hx : Txt x) (hb : x.length ≤ 65536) (hp : l.Perm (firstsL x)) : (indL x l).length = x.length ∧ ∀ z ∈ indL x l, 0 ≤ z ∧ z < (x.length : Int) := by
  unfold indL
  by_cases h1 : x.length = 1
  · rw [if_pos h1]
    exact ⟨by rw [h1]; rfl, fun z hz => by rw [List.mem_singleton.1 hz]; omega⟩
  · rw [if_neg h1]
    have h2 : 2 ≤ x.length := by have := hx.pos; omega
    have hfs := fsP_of hx hb h2 hp
    have hok := Ind.ind_ok (tx_of hx) h2 hfs.nodup hfs.mem
    refine ⟨hok.len, fun z hz => ?_⟩
    obtain ⟨s, hs, rfl⟩ := List.mem_iff_getElem.1 hz
    rw [hok.len] at hs
    obtain ⟨i, hi, e1, _⟩ := hok.all s hs
    have : (Ind.ind x (l.map Int.toNat))[s] = (i : Int) := by
      rw [← e1, List.getD_eq_getElem?_getD, List.getElem?_eq_getElem (by rw [hok.len]; exact hs)]
      rfl
    rw [this]
    omega
theorem reduced {x : List Int} (hx : Txt x) (hb : x.length ≤ 65536) : Ev (fun k => induce_Reduced.f k x) (nmsL x (firstsN x) (indL x (firstsL x)), 0) := by
  have hp := List.Perm.refl (firstsL x)
  obtain ⟨h1, h2⟩ := indL_wf hx hb hp
  unfold induce_Reduced.f
  refine Ev.bind (firsts x hb (txt_wf hx)) ?_
  rw [if_pos hx]
  simp only [if_true]
  refine Ev.bind (induced hx hb hp) ?_
  refine Ev.bind (named hx hb _ (fun z hz => by have := h2 z hz; exact (InK.of_i64 (x := z) (by omega) (by omega)).1) (by omega)) ?_
  exact Ev.now _
theorem back_l0 (f o : List Int) (hg : Good o) (hl : o.length = f.length) (hb : o.length < 1000000) : ∀ d i : Nat, i + d = o.length → Ev (fun k => induce_Back.l0 k f ((o.take i).map fun z => f.getD z.toNat 0) o (o.length : Int) (i : Int)) (o.map fun z => f.getD z.toNat 0, 0) := by
  intro d
  induction d with
  | zero =>
    intro i hi
    rw [List.take_of_length_le (by omega)]
    exact Ev_now fun k => by simp only [induce_Back.l0]; rw [if_neg (by omega)]
  | succ d ih =>
    intro i hi
    have h1 := ih (i + 1) (by omega)
    rw [take_succ_getD o i 0 (by omega), List.map_append] at h1
    obtain ⟨a, ha, hal⟩ := good_nat hg i (by omega)
    rw [ha] at h1
    refine Ev_to h1 fun k => ?_
    simp only [induce_Back.l0]
    rw [if_pos (by omega), if_pos (by omega), if_pos (by omega), rd_nat, ha, if_pos (by omega), if_pos (by omega), if_pos (by rw [List.length_map, List.length_take]; omega), w_succ i (by omega), rd_nat]
    rfl
theorem back {x o : List Int} (hx : Txt x) (hb : x.length ≤ 65536) (hg : Good o) (hl : o.length = (firstsL x).length) : Ev (fun k => induce_Back.f k x o) (o.map fun z => (firstsL x).getD z.toNat 0, 0) := by
  have hlen := firstsL_len x
  unfold induce_Back.f
  refine Ev.bind (firsts x hb (txt_wf hx)) ?_
  rw [if_pos hx]
  simp only [if_true]
  refine Ev.bind (turned o (by omega)) ?_
  have ht : turnedR o = (outOf o.length o, 0) := by unfold turnedR; rw [if_pos hg]
  rw [ht]
  simp only [if_true]
  refine Ev_to (back_l0 (firstsL x) o hg hl (by omega) o.length 0 (by omega)) fun k => ?_
  simp only [induce_Back.j0]
  rw [if_neg (by simp [hl])]
  rfl
theorem txt_named {r : List Int} (ht : Ind.Tx r) (hr : ∀ z ∈ r, 0 ≤ z ∧ z < 65536) : Txt r := ⟨hr, fun i hi => by
  constructor
  · intro h0
    refine Classical.byContradiction fun hn => ?_
    have := ht.mid i (by omega)
    omega
  · intro h
    have := ht.last
    rw [show r.length - 1 = i by omega] at this
    exact this, ht.pos⟩
theorem red_l0 {x B : List Int} (hx : Txt x) (hb : x.length ≤ 65536) (hB : B.length < 1000000) (hBx : ∀ i, i < B.length → ∃ a : Nat, B.getD i 0 = (a : Int) ∧ a < x.length) (hr : ∀ i, i + 1 < B.length → cmpS x (B.getD i 0).toNat (B.getD (i + 1) 0).toNat < 0) :
    ∀ d i : Nat, i + d = B.length → 1 ≤ i → Ev (fun k => incipitlaw16_InduceReduces.l0 k x B (i : Int)) true := by
  intro d
  induction d with
  | zero =>
    intro i hi h1
    refine Ev_to (Ev.bind known (Ev.now _)) fun k => ?_
    simp only [incipitlaw16_InduceReduces.l0]
    rw [if_neg (by omega)]
  | succ d ih =>
    intro i hi h1
    obtain ⟨a, ha, hal⟩ := hBx (i - 1) (by omega)
    obtain ⟨b, hb2, hbl⟩ := hBx i (by omega)
    have h3 := hr (i - 1) (by omega)
    rw [show i - 1 + 1 = i by omega, ha, hb2] at h3
    have hl := refLess hx (by omega) a b hal hbl
    rw [decide_eq_true (show cmpS x a b < 0 by simpa using h3)] at hl
    refine Ev_to (f := fun k => (incipitref15_Less.f k x (a : Int) (b : Int)).bind fun t => if t = true then incipitlaw16_InduceReduces.l0 k x B ((i + 1 : Nat) : Int) else some false) (Ev.bind hl (by simp only [if_true]; exact ih (i + 1) (by omega) (by omega))) fun k => ?_
    simp only [incipitlaw16_InduceReduces.l0]
    have e1 : wrap64 ((i : Int) - 1) = ((i - 1 : Nat) : Int) := by rw [w_id] <;> omega
    rw [if_pos (by omega), e1, if_pos (by omega), if_pos (by omega), if_pos (by omega), rd_nat, rd_nat, ha, hb2, w_succ i (by omega)]
theorem InduceReduces : incipitlaw16_InduceReduces.Pure := by
  intro l0 a1 _ _ _ _
  obtain ⟨x, hxe, hx, hL⟩ := text l0 a1
  have hfl := firstsL_len x
  have hfN : (firstsL x).length = (firstsN x).length := by rw [firstsN_I, List.length_map]
  have hhalf := Ind.Firsts.half (firsts_ok x)
  unfold incipitlaw16_InduceReduces.f
  refine Ev.rounds ?_
  refine Ev.bind hxe ?_
  refine Ev.bind (reduced hx (by omega)) ?_
  refine Ev.bind (refFirsts hx (by omega)) ?_
  obtain ⟨hi1, hi2⟩ := indL_wf hx (by omega) (List.Perm.refl (firstsL x))
  have hrl := nmsL_len x (firstsN x) (indL x (firstsL x))
  have hrr := nmsL_rng x (firstsN x) (indL x (firstsL x)) (by omega)
  have hnm : 2 ≤ x.length → Ind.Named x (firstsN x) (nmsL x (firstsN x) (indL x (firstsL x))) := fun h2 => by
    have hfs := fsP_of hx (by omega) h2 (List.Perm.refl (firstsL x))
    unfold indL
    rw [if_neg (by omega)]
    exact nmsL_named (tx_of hx) h2 (firsts_ok x) hfs.nodup hfs.mem
  generalize nmsL x (firstsN x) (indL x (firstsL x)) = r at *
  simp only [if_true]
  have e0 : (r.length : Int) = ((firstsL x).length : Int) := by rw [hrl, hfN]
  simp only [if_pos e0]
  rw [show decide ((wrap64 (2 * (r.length : Int))) > (x.length : Int)) = false from decide_eq_false (by rw [w_id] <;> omega)]
  by_cases hr2 : r.length < 2
  · refine Ev_to (Ev.bind known (Ev.now _)) fun k => ?_
    simp only [incipitlaw16_InduceReduces.j0]
    rw [if_neg (by decide), if_pos (by omega)]
  · have h2 : 2 ≤ x.length := by omega
    have hN := hnm h2
    have hf := firsts_ok x
    have htr : Txt r := txt_named (Ind.Named.tx (tx_of hx) h2 hf hN) hrr
    have hck := refCheck r (by omega)
    rw [(txt_iff r).2 htr] at hck
    have hsl := sortS_len r
    have hbk := back hx (by omega) (sortS_good r) (by omega)
    refine Ev_to (f := fun k => (incipitref15_Check.f k r).bind fun t => if t = 0 then ((incipitref15_Sort.f k r).bind fun t => (induce_Back.f k x t).bind fun bt => (if bt.2 = 0 then (incipitlaw16_InduceReduces.j1 k x bt.1 ((bt.1.length : Int) != ((firstsL x).length : Int))) else (incipitlaw16_InduceReduces.j1 k x bt.1 true))) else some false) ?_ fun k => ?_
    · refine Ev.bind hck ?_
      simp only [if_true]
      refine Ev.bind (refSort htr (by omega)) ?_
      refine Ev.bind hbk ?_
      simp only [if_true]
      -- the first Ss, ordered so
      have hB : (sortS r).map (fun z => (firstsL x).getD z.toNat 0) = ((sortN r r.length).map fun a => (firstsN x).getD a 0).map Int.ofNat := by
        unfold sortS
        rw [List.map_map, List.map_map]
        refine List.map_congr_left fun a ha => ?_
        have ha2 : a < (firstsN x).length := by
          have := List.mem_range.1 ((sortN_perm r r.length).mem_iff.1 ha)
          omega
        show (firstsL x).getD a 0 = ((firstsN x).getD a 0 : Int)
        rw [firstsN_I]
        simp [List.getD_eq_getElem?_getD, ha2]
      have hrise := Ind.Named.back (tx_of hx) h2 hf hN (sortN_rises r r.length (Nat.le_refl _)) fun a ha => by
        have := List.mem_range.1 ((sortN_perm r r.length).mem_iff.1 ha)
        omega
      rw [hB]
      have hml : (((sortN r r.length).map fun a => (firstsN x).getD a 0).map Int.ofNat).length = (firstsL x).length := by
        rw [List.length_map, List.length_map, sortN_len]; omega
      have hin : ∀ b ∈ (sortN r r.length).map (fun a => (firstsN x).getD a 0), b < x.length := fun b hb => by
        obtain ⟨a, ha, rfl⟩ := List.mem_map.1 hb
        have := List.mem_range.1 ((sortN_perm r r.length).mem_iff.1 ha)
        exact (hf.get (by omega)).1
      generalize (sortN r r.length).map (fun a => (firstsN x).getD a 0) = B at *
      rw [hml]
      have hBl : B.length < 1000000 := by rw [List.length_map] at hml; omega
      refine Ev_to (red_l0 (B := B.map Int.ofNat) hx (by omega) (by rw [List.length_map]; exact hBl) (fun i hi => ?_) (fun i hi => ?_) (B.map Int.ofNat).length.pred 1 ?_ (Nat.le_refl _)) fun k => ?_
      · rw [List.length_map] at hi
        exact ⟨B.getD i 0, by simp [List.getD_eq_getElem?_getD, hi], hin _ (getD_mem B i 0 hi)⟩
      · rw [List.length_map] at hi
        have := List.pairwise_iff_getElem.1 hrise i (i + 1) (by omega) hi (by omega)
        simpa [List.getD_eq_getElem?_getD, hi, show i < B.length by omega] using this
      · have : 0 < (B.map Int.ofNat).length := by omega
        rw [Nat.pred_eq_sub_one]
        omega
      · simp only [incipitlaw16_InduceReduces.j1]
        rw [if_neg (by simp)]
        rfl
    · simp only [incipitlaw16_InduceReduces.j0]
      rw [if_neg (by decide), if_neg (by omega)]

end Go.Proofs.Ythkofhidhghmmaa.IndRAll
