/- Layer 16: the pure side of InduceSorts (wip/tools/mkpure.py wrote it out of SufPure1, SufPure2, SufPure3, SufPure4, SufPure5, SufPure6, IndPure2, IndPure3, IndPure4). -/
import Derived.Test.YthkofhidhghmmaaPIndSx4
import Derived.Test.YthkofhidhghmmaaPIndSx0
import Derived.Test.YthkofhidhghmmaaPIndSx1
import Derived.Test.YthkofhidhghmmaaPIndSx2
import Derived.Test.YthkofhidhghmmaaPIndSx3
import Derived.Test.YthkofhidhghmmaaEvW
namespace Go.Proofs.Ythkofhidhghmmaa.IndSPure
open Go.RowKit Go.Proofs.Ythkofhidhghmmaa Go.Proofs.Ythkofhidhghmmaa.PIndS Go.Proofs.YthkofhidhghmmaaW.PrintWords Go.Proofs.YthkofhidhghmmaaW.PrintMore
set_option linter.unusedVariables false

/-! ### Same -/
theorem same6_l (a b : List Int) (hl : a.length = b.length) (hs : a.length < 4611686018427387904) : ∀ d i : Nat, i + d = a.length → Ev (fun k => incipitref06_Same.l0 k a b (i : Int)) (decide (a.drop i = b.drop i)) := by
  intro d
  induction d with
  | zero =>
    intro i hi
    rw [List.drop_of_length_le (by omega), List.drop_of_length_le (by omega), decide_eq_true rfl]
    exact Ev_now fun k => by simp only [incipitref06_Same.l0]; rw [if_neg (by omega)]
  | succ d ih =>
    intro i hi
    rw [drop_cons a i 0 (by omega), drop_cons b i 0 (by omega)]
    by_cases e : a.getD i 0 = b.getD i 0
    · rw [e]
      simp only [List.cons.injEq, true_and]
      exact Ev_to (ih (i + 1) (by omega)) fun k => by
        simp only [incipitref06_Same.l0]
        rw [if_pos (by omega), if_pos (by omega), if_pos (by omega), if_pos (by rw [rd_nat, rd_nat, e]), w_succ i (by omega)]
    · rw [decide_eq_false (by simp only [List.cons.injEq]; exact fun h => e h.1)]
      exact Ev_now fun k => by
        simp only [incipitref06_Same.l0]
        rw [if_pos (by omega), if_pos (by omega), if_pos (by omega), if_neg (by rw [rd_nat, rd_nat]; exact e)]
theorem same6 (a b : List Int) (hs : a.length < 4611686018427387904) : Ev (fun k => incipitref06_Same.f k a b) (decide (a = b)) := by
  by_cases h : a.length = b.length
  · have := same6_l a b h hs a.length 0 (by omega)
    simp only [List.drop_zero] at this
    exact Ev_as this fun k => by unfold incipitref06_Same.f; rw [if_pos (by omega)]; rfl
  · rw [decide_eq_false (fun e => h (by rw [e]))]
    exact Ev_eq fun k => by unfold incipitref06_Same.f; rw [if_neg (by omega)]

/-! ### the document's -/
/-! ### each place once -/
theorem idxOf_getD {l : List Int} {x : Int} (h : x ∈ l) : l.getD (l.idxOf x) 0 = x := by
  have := List.idxOf_lt_length_iff.2 h
  rw [getD_lt _ _ _ this]
  exact List.getElem_idxOf this

/-! ### what is a text -/
theorem index_l (l : List Int) (hb : l.length < 1000000) (v : Int) : ∀ d i : Nat, i + d = l.length → v ∉ l.take i → Ev (fun k => slices_Index_int_int.l0 k l v (l.length : Int) (i : Int)) (if v ∈ l then (l.idxOf v : Int) else -1) := by
  intro d
  induction d with
  | zero =>
    intro i hi hn
    rw [List.take_of_length_le (by omega)] at hn
    rw [if_neg hn]
    exact Ev_now fun k => by simp only [slices_Index_int_int.l0]; rw [if_neg (by omega)]
  | succ d ih =>
    intro i hi hn
    by_cases e : v = l.getD i 0
    · have hm := getD_mem l i 0 (by omega)
      have hx : l.idxOf v = i := by
        conv => lhs; rw [← List.take_append_drop i l]
        rw [List.idxOf_append, if_neg hn, drop_cons l i 0 (by omega), ← e, List.idxOf_cons_self, List.length_take]
        omega
      rw [if_pos (by rw [e]; exact hm), hx]
      exact Ev_now fun k => by
        simp only [slices_Index_int_int.l0]
        rw [if_pos (by omega), if_pos (by omega), if_pos (by omega), if_pos (by rw [rd_nat]; exact e)]
    · refine Ev_to (ih (i + 1) (by omega) ?_) fun k => ?_
      · rw [take_succ_getD l i 0 (by omega)]
        simp only [List.mem_append, List.mem_singleton, not_or]
        exact ⟨hn, e⟩
      · simp only [slices_Index_int_int.l0]
        rw [if_pos (by omega), if_pos (by omega), if_pos (by omega), if_neg (by rw [rd_nat]; exact e), w_succ i (by omega)]
theorem index (l : List Int) (hb : l.length < 1000000) (v : Int) : Ev (fun k => slices_Index_int_int.f k l v) (if v ∈ l then (l.idxOf v : Int) else -1) := index_l l hb v l.length 0 (by omega) (by simp)
/-- Codes, and a nought at the end alone. -/
structure Txt (l : List Int) : Prop where
  rng : ∀ x ∈ l, 0 ≤ x ∧ x < 65536
  last : ∀ i : Nat, i < l.length → (l.getD i 0 = 0 ↔ i + 1 = l.length)
  pos : 0 < l.length
def chk (l : List Int) : Int := if l.any badCode = true then 10 else if (if (0 : Int) ∈ l then (l.idxOf 0 : Int) else -1) = (l.length : Int) - 1 then (if l.length = 0 then 3 else 0) else 3
theorem txt_iff (l : List Int) : chk l = 0 ↔ Txt l := by
  unfold chk
  have hbad : l.any badCode = true ↔ ¬ ∀ x ∈ l, 0 ≤ x ∧ x < 65536 := by
    rw [List.any_eq_true]
    constructor
    · rintro ⟨x, hx, hb⟩ h
      have := h x hx
      unfold badCode at hb
      simp at hb
      omega
    · intro h
      refine Classical.byContradiction fun hn => h fun x hx => Classical.byContradiction fun h2 => hn ⟨x, hx, ?_⟩
      unfold badCode
      simp
      omega
  by_cases h1 : l.any badCode = true
  · rw [if_pos h1]
    exact ⟨fun h => absurd h (by decide), fun h => absurd h.rng (hbad.1 h1)⟩
  · rw [if_neg h1]
    have hr : ∀ x ∈ l, 0 ≤ x ∧ x < 65536 := Classical.byContradiction fun h => h1 (hbad.2 h)
    by_cases h2 : (0 : Int) ∈ l
    · rw [if_pos h2]
      have hlt := List.idxOf_lt_length_iff.2 h2
      by_cases h3 : (l.idxOf (0 : Int) : Int) = (l.length : Int) - 1
      · rw [if_pos h3, if_neg (by omega)]
        refine ⟨fun _ => ⟨hr, fun i hi => ⟨fun e => ?_, fun e => ?_⟩, by omega⟩, fun _ => rfl⟩
        · refine Classical.byContradiction fun hne => ?_
          have hlt2 : i < l.idxOf (0 : Int) := by omega
          have := List.not_of_lt_findIdx (p := (· == (0 : Int))) (xs := l) hlt2
          rw [getD_lt l i 0 hi] at e
          simp [e] at this
        · have := idxOf_getD h2
          rwa [show l.idxOf (0 : Int) = i by omega] at this
      · rw [if_neg h3]
        refine ⟨fun h => absurd h (by decide), fun h => ?_⟩
        have := (h.last _ hlt).1 (idxOf_getD h2)
        omega
    · rw [if_neg h2]
      by_cases h3 : (-1 : Int) = (l.length : Int) - 1
      · rw [if_pos h3, if_pos (by omega)]
        exact ⟨fun h => absurd h (by decide), fun h => absurd h.pos (by omega)⟩
      · rw [if_neg h3]
        refine ⟨fun h => absurd h (by decide), fun h => absurd ?_ h2⟩
        have h4 := (h.last (l.length - 1) (by have := h.pos; omega)).2 (by have := h.pos; omega)
        rw [← h4]
        exact getD_mem l _ 0 (by have := h.pos; omega)
instance (l : List Int) : Decidable (Txt l) := decidable_of_iff _ (txt_iff l)
theorem inKs_true {l : List Int} (h : ∀ x ∈ l, (Lit.int .i64 x).wf = true) : inKs .i64 l = true := List.all_eq_true.2 h
theorem check (l : List Int) (hb : l.length ≤ 65536) (hw : ∀ x ∈ l, (Lit.int .i64 x).wf = true) : Ev (fun k => suffix_Check.f k l) (chk l) := by
  unfold suffix_Check.f
  simp only [if_neg (show ¬ 65536 < l.length by omega), if_pos (inKs_true hw)]
  unfold chk
  by_cases h1 : l.any badCode = true
  · simp only [if_pos h1]; exact Ev.now _
  · simp only [if_neg h1]
    refine Ev.bind (index l (by omega) 0) ?_
    by_cases h3 : (if (0 : Int) ∈ l then (l.idxOf 0 : Int) else -1) = (l.length : Int) - 1
    · simp only [if_pos h3]
      by_cases h0 : l.length = 0
      · simp only [if_pos h0]; exact Ev.now _
      · simp only [if_neg h0]; exact Ev.now _
    · simp only [if_neg h3]; exact Ev.now _

/-! ### how a suffix is against another one -/
/-! ### right -/

theorem cmpS_step (x : List Int) (a b : Nat) (ha : a < x.length) (hb : b < x.length) : cmpS x a b = if x.getD a 0 < x.getD b 0 then -1 else if x.getD b 0 < x.getD a 0 then 1 else cmpS x (a + 1) (b + 1) := by
  unfold cmpS
  rw [drop_cons x a 0 ha, drop_cons x b 0 hb]
  rfl
theorem txt_eq {x : List Int} (hx : Txt x) {a b : Nat} (ha : a < x.length) (hb : b < x.length) (hne : a ≠ b) (h : x.getD a 0 = x.getD b 0) : a + 1 < x.length ∧ b + 1 < x.length := by
  have h1 := hx.last a ha
  have h2 := hx.last b hb
  constructor
  · refine Classical.byContradiction fun hn => ?_
    have e1 := h1.2 (by omega)
    have e2 := h2.1 (by omega)
    omega
  · refine Classical.byContradiction fun hn => ?_
    have e1 := h2.2 (by omega)
    have e2 := h1.1 (by omega)
    omega

theorem tm_range (a : Int) (s : Nat) (h0 : 0 < s) (h1 : s < 4611686018427387904) : 0 ≤ wrap64 (Int.tmod (IntKind.u64.wrap a) (IntKind.u64.wrap (s : Int))) ∧ wrap64 (Int.tmod (IntKind.u64.wrap a) (IntKind.u64.wrap (s : Int))) < s := by
  rw [IntKind.wrap_u64, IntKind.wrap_u64, Int.emod_eq_of_lt (a := (s : Int)) (by omega) (by omega), Int.tmod_eq_emod_of_nonneg (by omega)]
  have h2 := Int.emod_nonneg (a % 18446744073709551616) (b := (s : Int)) (by omega)
  have h3 := Int.emod_lt_of_pos (a % 18446744073709551616) (b := (s : Int)) (by omega)
  rw [w_id (by omega) (by omega)]
  exact ⟨h2, h3⟩
theorem txt_of (o : List Int) (h : ∀ z ∈ o, 1 ≤ z ∧ z ≤ 65535) : Txt (o ++ [0]) := by
  refine ⟨fun x hx => ?_, fun i hi => ?_, by simp⟩
  · rcases List.mem_append.1 hx with hx | hx
    · have := h x hx; omega
    · rw [List.mem_singleton] at hx; omega
  · rw [List.length_append, List.length_singleton] at hi ⊢
    by_cases e : i < o.length
    · have hg : (o ++ [0]).getD i 0 = o.getD i 0 := by simp [List.getD_eq_getElem?_getD, List.getElem?_append_left e]
      have := h _ (getD_mem o i 0 e)
      rw [hg]
      constructor <;> intro h2 <;> omega
    · have hg : (o ++ [0]).getD i 0 = 0 := by
        rw [show i = o.length by omega]
        simp [List.getD_eq_getElem?_getD]
      rw [hg]
      constructor
      · intro _; omega
      · intro _; rfl
theorem text_l (l : List Int) (s : Nat) (h0 : 0 < s) (h1 : s < 10) : ∀ d i : Nat, i + d = min l.length 120 → ∀ o : List Int, o.length = i → (∀ z ∈ o, 1 ≤ z ∧ z ≤ 65535) → ∃ x, Ev (fun k => incipitlaw15_Text.l0 k l (s : Int) o (i : Int)) x ∧ Txt x ∧ x.length ≤ 121 := by
  intro d
  induction d with
  | zero =>
    intro i hi o ho hz
    refine ⟨o ++ [0], Ev_now fun k => ?_, txt_of o hz, by simp; omega⟩
    simp only [incipitlaw15_Text.l0]
    by_cases h : i < l.length
    · rw [if_pos (by omega), if_neg (by omega), if_pos (by omega)]
    · rw [if_neg (by omega), if_pos (by omega)]
  | succ d ih =>
    intro i hi o ho hz
    have hr := tm_range (l.getD i 0) s h0 (by omega)
    generalize hv : wrap64 (Int.tmod (IntKind.u64.wrap (l.getD i 0)) (IntKind.u64.wrap (s : Int))) = v at hr
    obtain ⟨x, hx, hT, hL⟩ := ih (i + 1) (by omega) (o ++ [1 + v]) (by simp; omega) (fun z hz2 => by
      rcases List.mem_append.1 hz2 with h | h
      · exact hz z h
      · rw [List.mem_singleton] at h; omega)
    refine ⟨x, Ev_to hx fun k => ?_, hT, hL⟩
    simp only [incipitlaw15_Text.l0]
    rw [if_pos (by omega), if_pos (by omega), if_pos (by omega), if_neg (by rw [IntKind.wrap_u64]; omega), if_pos (by omega), rd_nat, hv, w_id (x := 1 + v) (by omega) (by omega), w_succ i (by omega)]
theorem text (l : List Int) (a : Int) : ∃ x, Ev (fun k => incipitlaw15_Text.f k l a) x ∧ Txt x ∧ x.length ≤ 121 := by
  have hr := tm_range a 9 (by decide) (by decide)
  have e9 : IntKind.u64.wrap ((9 : Nat) : Int) = 9 := by rw [IntKind.wrap_u64]; rfl
  rw [e9] at hr
  unfold incipitlaw15_Text.f
  generalize wrap64 (Int.tmod (IntKind.u64.wrap a) 9) = v at hr
  rw [w_id (x := 1 + v) (by omega) (by omega)]
  obtain ⟨s, hs⟩ := Int.eq_ofNat_of_zero_le (show 0 ≤ 1 + v by omega)
  rw [hs]
  exact text_l l s (by omega) (by omega) _ 0 (Nat.zero_add _) [] rfl (by simp)
theorem txt_wf {x : List Int} (h : Txt x) : ∀ z ∈ x, (Lit.int .i64 z).wf = true := fun z hz => by
  have := h.rng z hz
  exact (InK.of_i64 (x := z) (by omega) (by omega)).1

/-! ### how much is alike -/
def comL : List Int → List Int → Nat
  | a :: s, b :: t => if a = b then comL s t + 1 else 0
  | _, _ => 0
theorem comL_nil (s : List Int) : comL s [] = 0 := by cases s <;> rfl
theorem common_l (x : List Int) (a b : Nat) (hb : x.length < 1000000) (ha : a ≤ x.length) (hbl : b ≤ x.length) : ∀ d n : Nat, a + n + d = x.length → Ev (fun k => incipitref15_Common.l0 k x (a : Int) (b : Int) (n : Int)) ((n + comL (x.drop (a + n)) (x.drop (b + n)) : Nat) : Int) := by
  intro d
  induction d with
  | zero =>
    intro n hn
    rw [List.drop_of_length_le (i := a + n) (by omega)]
    exact Ev_now fun k => by
      simp only [incipitref15_Common.l0]
      rw [if_neg (by rw [w_id] <;> omega)]; simp [comL]
  | succ d ih =>
    intro n hn
    have ea : wrap64 ((a : Int) + n) = ((a + n : Nat) : Int) := by rw [w_id] <;> omega
    have eb : wrap64 ((b : Int) + n) = ((b + n : Nat) : Int) ∨ x.length ≤ b + n := by
      by_cases h : b + n < x.length
      · exact .inl (by rw [w_id] <;> omega)
      · exact .inr (by omega)
    have eb' : wrap64 ((b : Int) + n) = ((b + n : Nat) : Int) := by rw [w_id] <;> omega
    rw [drop_cons x (a + n) 0 (by omega)]
    by_cases h : b + n < x.length
    · rw [drop_cons x (b + n) 0 h]
      unfold comL
      by_cases e : x.getD (a + n) 0 = x.getD (b + n) 0
      · rw [if_pos e]
        have := ih (n + 1) (by omega)
        rw [show n + 1 + comL (x.drop (a + (n + 1))) (x.drop (b + (n + 1))) = n + (comL (x.drop (a + n + 1)) (x.drop (b + n + 1)) + 1) by rw [Nat.add_assoc a n 1, Nat.add_assoc b n 1]; omega] at this
        exact Ev_to this fun k => by
          simp only [incipitref15_Common.l0]
          rw [ea, eb', if_pos (by omega), if_pos (by omega), if_pos (by omega), if_pos (by omega), if_pos (by rw [rd_nat, rd_nat]; exact e), w_succ n (by omega)]
      · rw [if_neg e]
        exact Ev_now fun k => by
          simp only [incipitref15_Common.l0]
          rw [ea, eb', if_pos (by omega), if_pos (by omega), if_pos (by omega), if_pos (by omega), if_neg (by rw [rd_nat, rd_nat]; exact e)]; rfl
    · rw [List.drop_of_length_le (i := b + n) (by omega), comL_nil]
      exact Ev_now fun k => by
        simp only [incipitref15_Common.l0]
        rw [ea, eb', if_pos (by omega), if_neg (by omega)]; rfl
theorem common (x : List Int) (a b : Nat) (hb : x.length < 1000000) (ha : a ≤ x.length) (hbl : b ≤ x.length) : Ev (fun k => incipitref15_Common.f k x (a : Int) (b : Int)) (comL (x.drop a) (x.drop b) : Int) := by
  have := common_l x a b hb ha hbl (x.length - a) 0 (by omega)
  rw [Nat.zero_add, Nat.add_zero, Nat.add_zero] at this
  exact Ev_as this fun k => rfl
theorem com_spec {x : List Int} (hx : Txt x) : ∀ d a b : Nat, a < x.length → b < x.length → x.length - a ≤ d → a ≠ b →
    a + comL (x.drop a) (x.drop b) < x.length ∧ b + comL (x.drop a) (x.drop b) < x.length ∧ (cmpS x a b < 0 ↔ x.getD (a + comL (x.drop a) (x.drop b)) 0 < x.getD (b + comL (x.drop a) (x.drop b)) 0) := by
  intro d
  induction d with
  | zero => intro a b ha hb hd; omega
  | succ d ih =>
    intro a b ha hb hd hne
    rw [cmpS_step x a b ha hb, drop_cons x a 0 ha, drop_cons x b 0 hb]
    unfold comL
    by_cases e : x.getD a 0 = x.getD b 0
    · obtain ⟨h5, h6⟩ := txt_eq hx ha hb hne e
      obtain ⟨h1, h2, h3⟩ := ih (a + 1) (b + 1) h5 h6 (by omega) (by omega)
      rw [if_pos e, if_neg (by omega), if_neg (by omega)]
      rw [show a + (comL (x.drop (a + 1)) (x.drop (b + 1)) + 1) = a + 1 + comL (x.drop (a + 1)) (x.drop (b + 1)) by omega, show b + (comL (x.drop (a + 1)) (x.drop (b + 1)) + 1) = b + 1 + comL (x.drop (a + 1)) (x.drop (b + 1)) by omega]
      exact ⟨h1, h2, h3⟩
    · rw [if_neg e]
      refine ⟨by omega, by omega, ?_⟩
      simp only [Nat.add_zero]
      by_cases h1 : x.getD a 0 < x.getD b 0
      · rw [if_pos h1]; exact ⟨fun _ => h1, fun _ => by decide⟩
      · rw [if_neg h1, if_pos (by omega)]; exact ⟨fun h => absurd h (by decide), fun h => absurd h h1⟩
theorem refLess {x : List Int} (hx : Txt x) (hb : x.length < 1000000) (a b : Nat) (ha : a < x.length) (hbl : b < x.length) : Ev (fun k => incipitref15_Less.f k x (a : Int) (b : Int)) (decide (cmpS x a b < 0)) := by
  unfold incipitref15_Less.f
  refine Ev.bind (common x a b hb (by omega) (by omega)) ?_
  by_cases e : a = b
  · subst e
    simp only [if_true]
    rw [cmpS_self]
    exact Ev.now _
  · obtain ⟨h1, h2, h3⟩ := com_spec hx x.length a b ha hbl (by omega) e
    generalize comL (x.drop a) (x.drop b) = n at h1 h2 h3
    have ea : wrap64 ((a : Int) + n) = ((a + n : Nat) : Int) := by rw [w_id] <;> omega
    have eb : wrap64 ((b : Int) + n) = ((b + n : Nat) : Int) := by rw [w_id] <;> omega
    refine Ev_eq fun k => ?_
    rw [if_neg (by omega), ea, eb, if_pos (by omega), if_pos (by omega), if_pos (by omega), if_pos (by omega), rd_nat, rd_nat]
    exact congrArg some (decide_eq_decide.2 h3.symm)

/-! ### kinds -/
def kindS (x : List Int) (i : Nat) : Bool := decide (i + 1 = x.length) || decide (cmpS x i (i + 1) < 0)
def kindsL (x : List Int) : List Bool := (List.range x.length).map (kindS x)
theorem kindsL_len (x : List Int) : (kindsL x).length = x.length := by simp [kindsL]
theorem kindsL_get (x : List Int) (i : Nat) (h : i < x.length) : (kindsL x).getD i false = kindS x i := by simp [kindsL, List.getD_eq_getElem?_getD, h]
theorem kindS_step {x : List Int} (hx : Txt x) (i : Nat) (h : i + 1 < x.length) : kindS x i = (decide (x.getD i 0 < x.getD (i + 1) 0) || decide (x.getD i 0 = x.getD (i + 1) 0) && kindS x (i + 1)) := by
  unfold kindS
  rw [decide_eq_false (show ¬ i + 1 = x.length by omega), cmpS_step x i (i + 1) (by omega) h]
  by_cases h1 : x.getD i 0 < x.getD (i + 1) 0
  · rw [if_pos h1, decide_eq_true h1]; simp
  · rw [if_neg h1, decide_eq_false h1]
    by_cases h2 : x.getD i 0 = x.getD (i + 1) 0
    · obtain ⟨_, h4⟩ := txt_eq hx (by omega) h (by omega) h2
      rw [if_neg (by omega), decide_eq_true h2, decide_eq_false (show ¬ i + 1 + 1 = x.length by omega)]; simp
    · rw [if_pos (by omega), decide_eq_false h2]; simp
theorem set_drop {α : Type} (o w : List α) (i : Nat) (d : α) (hl : o.length = w.length) (hi : i < o.length) (h : o.drop (i + 1) = w.drop (i + 1)) : (o.set i (w.getD i d)).drop i = w.drop i := by
  rw [drop_cons _ i d (by rw [List.length_set]; exact hi), drop_cons w i d (by omega), List.drop_set_of_lt (by omega), h]
  simp [List.getD_eq_getElem?_getD, hi]
theorem kinds_l {x : List Int} (hx : Txt x) (hb : x.length < 1000000) : ∀ i : Nat, i ≤ x.length → ∀ o : List Bool, o.length = x.length → o.drop i = (kindsL x).drop i → Ev (fun k => suffix_kinds.l0 k x o ((i : Int) - 1)) (kindsL x) := by
  intro i
  induction i with
  | zero =>
    intro hi o ho h
    rw [List.drop_zero, List.drop_zero] at h
    subst h
    exact Ev_now fun k => by simp only [suffix_kinds.l0]; rw [if_neg (by omega)]
  | succ i ih =>
    intro hi o ho h
    have hp := hx.pos
    have ei : ((i + 1 : Nat) : Int) - 1 = (i : Int) := by omega
    have el : wrap64 ((x.length : Int) - 1) = ((x.length - 1 : Nat) : Int) := by rw [w_id] <;> omega
    have em : wrap64 ((i : Int) - 1) = (i : Int) - 1 := by rw [w_id] <;> omega
    have hs := set_drop o (kindsL x) i false (by rw [kindsL_len, ho]) (by omega) h
    rw [kindsL_get x i (by omega)] at hs
    have hnext := ih (by omega) (o.set i (kindS x i)) (by rw [List.length_set, ho]) hs
    refine Ev_to hnext fun k => ?_
    simp only [suffix_kinds.l0]
    rw [ei, if_pos (by omega), el, em]
    by_cases e : i + 1 = x.length
    · rw [if_pos (by omega), if_pos (by omega), if_pos (by omega), Int.toNat_natCast]
      rw [show kindS x i = true by unfold kindS; rw [decide_eq_true e]; rfl]
    · rw [if_neg (by omega), if_pos (by omega), if_pos (by omega), w_succ i (by omega), if_pos (by omega), if_pos (by omega), rd_nat, rd_nat, Int.toNat_natCast]
      have hk := kindS_step hx i (by omega)
      by_cases h1 : x.getD i 0 < x.getD (i + 1) 0
      · rw [if_pos h1, if_pos (by omega)]
        rw [decide_eq_true h1] at hk
        rw [hk]; rfl
      · rw [if_neg h1]
        rw [decide_eq_false h1] at hk
        by_cases h2 : x.getD i 0 = x.getD (i + 1) 0
        · rw [if_pos h2, if_pos (by omega), if_pos (by omega)]
          rw [decide_eq_true h2] at hk
          have h3 : rdOf false o ((i + 1 : Nat) : Int) = kindS x (i + 1) := by
            unfold rdOf
            rw [Int.toNat_natCast, ← kindsL_get x (i + 1) (by omega)]
            have e3 := congrArg (fun z => z.getD 0 false) h
            simp only [List.getD_eq_getElem?_getD, List.getElem?_drop, Nat.add_zero] at e3
            simp only [List.getD_eq_getElem?_getD]
            exact e3
          rw [h3, hk]; simp
        · rw [if_neg h2, if_pos (by omega)]
          rw [decide_eq_false h2] at hk
          rw [hk]; rfl
theorem kinds {x : List Int} (hx : Txt x) (hb : x.length < 1000000) : Ev (fun k => suffix_kinds.f k x) (kindsL x) := by
  have hp := hx.pos
  have h := kinds_l hx hb x.length (Nat.le_refl _) (List.replicate x.length false) (by simp) (by rw [List.drop_of_length_le (by simp), List.drop_of_length_le (by rw [kindsL_len]; omega)])
  exact Ev_as h fun k => by
    unfold suffix_kinds.f
    rw [if_pos (by omega), if_pos (by omega), Int.toNat_natCast, w_id (x := (x.length : Int) - 1) (by omega) (by omega)]
theorem kindsK (x : List Int) (hb : x.length ≤ 65536) (hw : ∀ z ∈ x, (Lit.int .i64 z).wf = true) : Ev (fun k => suffix_Kinds.f k x) (if Txt x then (kindsL x, 0) else ([], chk x)) := by
  unfold suffix_Kinds.f
  refine Ev.bind (check x hb hw) ?_
  by_cases h : Txt x
  · simp only [if_pos ((txt_iff x).2 h), if_pos h]
    exact Ev.bind (kinds h (by omega)) (Ev.now _)
  · simp only [if_neg (fun e => h ((txt_iff x).1 e)), if_neg h]
    exact Ev.now _
theorem refKinds_l {x : List Int} (hx : Txt x) (hb : x.length < 1000000) : ∀ d i : Nat, i + d = x.length → Ev (fun k => incipitref15_Kinds.l0 k x ((kindsL x).take i) (i : Int)) (kindsL x) := by
  intro d
  induction d with
  | zero =>
    intro i hi
    rw [List.take_of_length_le (by rw [kindsL_len]; omega)]
    exact Ev_now fun k => by simp only [incipitref15_Kinds.l0]; rw [if_neg (by omega)]
  | succ d ih =>
    intro i hi
    have hp := hx.pos
    have el : wrap64 ((x.length : Int) - 1) = ((x.length - 1 : Nat) : Int) := by rw [w_id] <;> omega
    have h := ih (i + 1) (by omega)
    rw [take_succ_getD _ i false (by rw [kindsL_len]; omega), kindsL_get x i (by omega)] at h
    have hlen : ((kindsL x).take i).length < 140737488355328 := by rw [List.length_take, kindsL_len]; omega
    by_cases e : i + 1 = x.length
    · refine Ev_to h fun k => ?_
      simp only [incipitref15_Kinds.l0]
      rw [if_pos (by omega), el, if_pos (by omega), if_pos hlen, w_succ i (by omega), show kindS x i = true by unfold kindS; rw [decide_eq_true e]; rfl]
    · have hl := refLess hx hb i (i + 1) (by omega) (by omega)
      have hk : kindS x i = decide (cmpS x i (i + 1) < 0) := by unfold kindS; rw [decide_eq_false e]; rfl
      rw [hk] at h
      refine Ev_to (f := fun k => (incipitref15_Less.f k x (i : Int) ((i + 1 : Nat) : Int)).bind fun t => (if ((kindsL x).take i).length < 140737488355328 then incipitref15_Kinds.l0 k x ((kindsL x).take i ++ [t]) ((i + 1 : Nat) : Int) else none)) (Ev.bind hl (by simp only [if_pos hlen]; exact h)) fun k => ?_
      simp only [incipitref15_Kinds.l0]
      rw [if_pos (by omega), el, if_neg (by omega), w_succ i (by omega)]
theorem refKinds {x : List Int} (hx : Txt x) (hb : x.length < 1000000) : Ev (fun k => incipitref15_Kinds.f k x) (kindsL x) := refKinds_l hx hb x.length 0 (by omega)

/-! ### the first ones -/
def firstAt (ks : List Bool) (i : Nat) : Bool := decide (1 ≤ i) && ks.getD i false && !ks.getD (i - 1) false
def firstsOf (ks : List Bool) (m : Nat) : List Int := ((List.range m).filter (firstAt ks)).map Int.ofNat
theorem firstsOf_succ (ks : List Bool) (m : Nat) : firstsOf ks (m + 1) = firstsOf ks m ++ (if firstAt ks m = true then [(m : Int)] else []) := by
  unfold firstsOf
  rw [List.range_succ, List.filter_append, List.map_append]
  by_cases h : firstAt ks m = true
  · simp [h]
  · simp [h]
theorem firstsOf_len (ks : List Bool) (m : Nat) : (firstsOf ks m).length ≤ m := by
  unfold firstsOf
  rw [List.length_map]
  have := List.length_filter_le (firstAt ks) (List.range m)
  rwa [List.length_range] at this
theorem firsts_l (ks : List Bool) (hb : ks.length < 1000000) : ∀ d i : Nat, i + d = ks.length → Ev (fun k => suffix_Firsts.l0 k ks (firstsOf ks i) (ks.length : Int) (i : Int)) (firstsOf ks ks.length, 0) := by
  intro d
  induction d with
  | zero =>
    intro i hi
    rw [show i = ks.length by omega]
    exact Ev_now fun k => by simp only [suffix_Firsts.l0]; rw [if_neg (by omega)]
  | succ d ih =>
    intro i hi
    have h := ih (i + 1) (by omega)
    rw [firstsOf_succ] at h
    have hlen := firstsOf_len ks i
    have hr : rdOf false ks (i : Int) = ks.getD i false := rfl
    refine Ev_to h fun k => ?_
    simp only [suffix_Firsts.l0]
    rw [if_pos (by omega), w_succ i (by omega)]
    by_cases h0 : i = 0
    · subst h0
      rw [if_pos (by omega), if_neg (by unfold firstAt; simp), List.append_nil]
    · have e1 : wrap64 ((i : Int) - 1) = ((i - 1 : Nat) : Int) := by rw [w_id] <;> omega
      have hr1 : rdOf false ks ((i - 1 : Nat) : Int) = ks.getD (i - 1) false := rfl
      rw [if_neg (by omega), if_pos (by omega), if_pos (by omega), hr, e1, hr1]
      unfold firstAt
      rw [decide_eq_true (show 1 ≤ i by omega)]
      cases hk : ks.getD i false with
      | false => simp
      | true =>
        rw [if_pos rfl, if_pos (by omega), if_pos (by omega)]
        cases hk1 : ks.getD (i - 1) false with
        | true => simp
        | false => rw [if_neg (by decide), if_pos (by omega)]; simp
def firstsL (x : List Int) : List Int := firstsOf (kindsL x) x.length
theorem firsts (x : List Int) (hb : x.length ≤ 65536) (hw : ∀ z ∈ x, (Lit.int .i64 z).wf = true) : Ev (fun k => suffix_Firsts.f k x) (if Txt x then (firstsL x, 0) else ([], chk x)) := by
  unfold suffix_Firsts.f
  refine Ev.bind (kindsK x hb hw) ?_
  by_cases h : Txt x
  · simp only [if_pos h, if_true]
    have := firsts_l (kindsL x) (by rw [kindsL_len]; omega) (kindsL x).length 0 (by omega)
    unfold firstsL
    rw [kindsL_len] at this ⊢
    exact this
  · simp only [if_neg h, if_neg (fun e => h ((txt_iff x).1 e))]
    exact Ev.now _
theorem refFirsts_l (ks : List Bool) (hb : ks.length < 1000000) : ∀ d i : Nat, i + d = ks.length → 1 ≤ i → Ev (fun k => incipitref15_Firsts.l0 k ks (firstsOf ks i) (i : Int)) (firstsOf ks ks.length) := by
  intro d
  induction d with
  | zero =>
    intro i hi h1
    rw [show i = ks.length by omega]
    exact Ev_now fun k => by simp only [incipitref15_Firsts.l0]; rw [if_neg (by omega)]
  | succ d ih =>
    intro i hi h1
    have h := ih (i + 1) (by omega) (by omega)
    rw [firstsOf_succ] at h
    have hlen := firstsOf_len ks i
    have hr : rdOf false ks (i : Int) = ks.getD i false := rfl
    have e1 : wrap64 ((i : Int) - 1) = ((i - 1 : Nat) : Int) := by rw [w_id] <;> omega
    have hr1 : rdOf false ks ((i - 1 : Nat) : Int) = ks.getD (i - 1) false := rfl
    refine Ev_to h fun k => ?_
    simp only [incipitref15_Firsts.l0]
    rw [if_pos (by omega), if_pos (by omega), w_succ i (by omega), hr, e1, hr1]
    unfold firstAt
    rw [decide_eq_true h1]
    cases hk : ks.getD i false with
    | false => simp
    | true =>
      rw [if_pos rfl, if_pos (by omega), if_pos (by omega)]
      cases hk1 : ks.getD (i - 1) false with
      | true => simp
      | false => rw [if_neg (by decide), if_pos (by omega)]; simp
theorem refFirsts {x : List Int} (hx : Txt x) (hb : x.length < 1000000) : Ev (fun k => incipitref15_Firsts.f k x) (firstsL x) := by
  unfold incipitref15_Firsts.f
  refine Ev.bind (refKinds hx hb) ?_
  have hp := hx.pos
  have := refFirsts_l (kindsL x) (by rw [kindsL_len]; omega) (x.length - 1) 1 (by rw [kindsL_len]; omega) (by omega)
  rw [kindsL_len] at this
  exact this


/-! ### a number in a rising row -/
theorem firstsL_lt (x : List Int) : (firstsL x).Pairwise (· < ·) := by
  unfold firstsL firstsOf
  rw [List.pairwise_map]
  exact (List.pairwise_lt_range.filter _).imp fun h => Int.ofNat_lt.2 h
theorem firstsL_mem {x : List Int} {z : Int} (h : z ∈ firstsL x) : ∃ a : Nat, z = (a : Int) ∧ a < x.length := by
  unfold firstsL firstsOf at h
  obtain ⟨a, ha, rfl⟩ := List.mem_map.1 h
  exact ⟨a, rfl, List.mem_range.1 (List.mem_filter.1 ha).1⟩
theorem firstsL_len (x : List Int) : (firstsL x).length ≤ x.length := firstsOf_len _ _
/-! ### the law -/

/-! ### the document's order -/
abbrev toI (o : List Nat) : List Int := o.map Int.ofNat
theorem toI_getD (o : List Nat) (i : Nat) (h : i < o.length) : (toI o).getD i 0 = ((o.getD i 0 : Nat) : Int) := by simp [List.getD_eq_getElem?_getD, h]
theorem refSort_l1 {x : List Int} (hx : Txt x) (hb : x.length ≤ 65536) (o : List Nat) (v : Nat) (hv : v < x.length) (ho : ∀ z ∈ o, z < x.length) (hol : o.length < 1000000) (r : List Int) : ∀ d j : Nat, j + d = o.length →
    Ev (fun k => incipitref15_Sort.l0 k x (toI (o.take j ++ insS x v (o.drop j))) ((v + 1 : Nat) : Int)) r → Ev (fun k => incipitref15_Sort.l1 k x (toI o) (v : Int) (j : Int)) r := by
  intro d
  have hlen : (toI o).length = o.length := List.length_map _
  induction d with
  | zero =>
    intro j hj h
    rw [List.drop_of_length_le (by omega), List.take_of_length_le (by omega)] at h
    refine Ev_to h fun k => ?_
    simp only [incipitref15_Sort.l1]
    rw [if_neg (by rw [hlen]; omega)]
    simp only [Option.bind_some, Int.toNat_natCast, List.nil_append]
    have e1 : (toI o).take j = toI o := List.take_of_length_le (by rw [hlen]; omega)
    have e2 : (toI o).drop j = [] := List.drop_of_length_le (by rw [hlen]; omega)
    rw [e1, e2, if_pos (by omega), if_pos (by rw [hlen]; omega), if_pos (by simp; omega), if_pos (by simp; omega), if_pos (by simp; omega), w_succ v (by omega)]
    unfold insS toI
    simp
  | succ d ih =>
    intro j hj h
    have hget := toI_getD o j (by omega)
    have hz := ho _ (getD_mem o j 0 (by omega))
    have hl := refLess hx (by omega) (o.getD j 0) v hz hv
    rw [drop_cons o j 0 (by omega)] at h
    unfold insS at h
    by_cases hc : cmpS x (o.getD j 0) v < 0
    · rw [if_pos hc] at h
      rw [decide_eq_true hc] at hl
      have h2 := ih (j + 1) (by omega) (by rw [take_succ_getD o j 0 (by omega), List.append_assoc, List.singleton_append]; exact h)
      refine Ev.step (f := ?fa) ?ha ?ea
      case ha =>
        intro k
        simp only [incipitref15_Sort.l1]
        rw [if_pos (by rw [hlen]; omega), if_pos (by omega), rd_nat, hget]
      case ea =>
        refine Ev.bind hl ?_
        simp only [if_true, w_succ j (show j < 4611686018427387904 by omega)]
        exact h2
    · rw [if_neg hc] at h
      rw [decide_eq_false hc] at hl
      refine Ev.step (f := ?fb) ?hb ?eb
      case hb =>
        intro k
        simp only [incipitref15_Sort.l1]
        rw [if_pos (by rw [hlen]; omega), if_pos (by omega), rd_nat, hget]
      case eb =>
        refine Ev.bind hl ?_
        simp only [if_neg (show ¬ false = true by decide), Option.bind_some, Int.toNat_natCast, List.nil_append]
        have e1 : (toI o).take j = toI (o.take j) := List.map_take.symm
        have e2 : (toI o).drop j = toI (o.drop j) := List.map_drop.symm
        rw [e1, e2]
        refine Ev_as h fun k => ?_
        rw [if_pos (by rw [hlen]; omega), if_pos (by simp; omega), if_pos (by simp; omega), if_pos (by simp; omega), w_succ v (by omega)]
        rw [← drop_cons o j 0 (by omega)]
        simp [toI]
theorem refSort_l0 {x : List Int} (hx : Txt x) (hb : x.length ≤ 65536) : ∀ d i : Nat, i + d = x.length → Ev (fun k => incipitref15_Sort.l0 k x (toI (sortN x i)) (i : Int)) (sortS x) := by
  intro d
  induction d with
  | zero =>
    intro i hi
    rw [show i = x.length by omega]
    exact Ev_now fun k => by simp only [incipitref15_Sort.l0]; rw [if_neg (by omega)]; rfl
  | succ d ih =>
    intro i hi
    have hlen := sortN_len x i
    have h := refSort_l1 hx hb (sortN x i) i (by omega) (fun z hz => by have := (sortN_mem x i z).1 hz; omega) (by omega) (sortS x) (sortN x i).length 0 (by omega) (ih (i + 1) (by omega))
    exact Ev_to h fun k => by simp only [incipitref15_Sort.l0]; rw [if_pos (by omega)]; rfl
theorem refSort {x : List Int} (hx : Txt x) (hb : x.length ≤ 65536) : Ev (fun k => incipitref15_Sort.f k x) (sortS x) := refSort_l0 hx hb x.length 0 (by omega)

/-! ### how much is alike -/

theorem known_mono : ∀ k, LeO (incipitlaw16_known.f k) (incipitlaw16_known.f (k + 1)) := incipitlaw16_known.mono
set_option maxRecDepth 100000 in
theorem known : Ev (fun k => incipitlaw16_known.f k) true := Ev.of known_mono (k := 60) (by kernel_rfl)

theorem codes_of {x : List Int} (hx : Txt x) (hb : x.length ≤ 65536) : CodesP x := ⟨hx.pos, hb, fun y hy => by have := hx.rng y hy; omega⟩

theorem tx_of {x : List Int} (hx : Txt x) : Ind.Tx x := ⟨hx.pos, (hx.last _ (by have := hx.pos; omega)).2 (by have := hx.pos; omega), fun i hi => by
  have h1 := hx.rng _ (getD_mem x i 0 (by omega))
  have h2 := hx.last i (by omega)
  omega⟩
/-- The first Ss' places. -/
def firstsN (x : List Int) : List Nat := (List.range x.length).filter (firstAt (kindsL x))
theorem firstsN_I (x : List Int) : firstsL x = (firstsN x).map Int.ofNat := rfl
theorem firstAt_lms (x : List Int) (i : Nat) (h : i < x.length) : firstAt (kindsL x) i = Ind.lms x i := by
  unfold firstAt Ind.lms
  rw [kindsL_get x i h, kindsL_get x (i - 1) (by omega)]
  rfl
theorem mem_firstsN (x : List Int) (i : Nat) : i ∈ firstsN x ↔ i < x.length ∧ Ind.lms x i = true := by
  unfold firstsN
  rw [List.mem_filter, List.mem_range]
  constructor
  · rintro ⟨h1, h2⟩; exact ⟨h1, by rw [← firstAt_lms x i h1]; exact h2⟩
  · rintro ⟨h1, h2⟩; exact ⟨h1, by rw [firstAt_lms x i h1]; exact h2⟩
theorem firstsN_lt (x : List Int) : (firstsN x).Pairwise (· < ·) := List.Pairwise.filter _ List.pairwise_lt_range
theorem firsts_ok (x : List Int) : Ind.Firsts x (firstsN x) := ⟨firstsN_lt x, mem_firstsN x⟩
theorem mem_firstsL (x : List Int) (i : Nat) : (i : Int) ∈ firstsL x ↔ i < x.length ∧ Ind.lms x i = true := by
  rw [firstsN_I, ← mem_firstsN]
  constructor
  · intro h
    obtain ⟨j, hj, e⟩ := List.mem_map.1 h
    have : j = i := by have : (j : Int) = (i : Int) := e; omega
    exact this ▸ hj
  · intro h; exact List.mem_map.2 ⟨i, h, rfl⟩
theorem firstsL_nodup (x : List Int) : (firstsL x).Nodup := by
  rw [List.nodup_iff_pairwise_ne]
  exact (firstsL_lt x).imp fun h => by omega
theorem fsP_of {x l : List Int} (hx : Txt x) (hb : x.length ≤ 65536) (h2 : 2 ≤ x.length) (hp : l.Perm (firstsL x)) : FsP x l := by
  have hlen := firstsL_len x
  have hpl := hp.length_eq
  refine ⟨by omega, fun e => ?_, hp.nodup_iff.2 (firstsL_nodup x), fun z hz => ?_, fun i _ hi => ?_⟩
  · have := (Ind.Firsts.last (tx_of hx) h2 (firsts_ok x)).1
    rw [e] at hpl
    rw [firstsN_I, List.length_map] at hpl
    simp at hpl
    omega
  · obtain ⟨a, rfl, ha⟩ := firstsL_mem (hp.mem_iff.1 hz)
    have := (mem_firstsL x a).1 (hp.mem_iff.1 hz)
    exact ⟨by omega, by simpa using ha, by simpa using this.2⟩
  · exact hp.mem_iff.2 ((mem_firstsL x i).2 ⟨by have := List.mem_range.1 ‹_›; exact this, hi⟩)
/-- The order that comes of first Ss. -/
def indL (x l : List Int) : List Int := if x.length = 1 then [0] else Ind.ind x (l.map Int.toNat)
theorem induced {x l : List Int} (hx : Txt x) (hb : x.length ≤ 65536) (hp : l.Perm (firstsL x)) : Ev (fun k => induce_induced.f k x l) (indL x l) := by
  unfold induce_induced.f indL
  by_cases h1 : x.length = 1
  · simp only [if_pos h1]
    exact Ev.now _
  · have h2 : 2 ≤ x.length := by have := hx.pos; omega
    simp only [if_neg h1]
    refine Ev.bind (kindsK x hb (txt_wf hx)) ?_
    rw [if_pos hx]
    have hpre : IndPre x l (kindsL x) 0 := ⟨h2, codes_of hx hb, ⟨(tx_of hx).last, fun i _ hi => (tx_of hx).mid i hi⟩, fsP_of hx hb h2 hp, rfl, rfl⟩
    simp only [if_pos hpre]
    exact Ev.now _
theorem firstsL_wf (x : List Int) (hb : x.length ≤ 65536) : ∀ z ∈ firstsL x, (Lit.int .i64 z).wf = true := fun z hz => by
  obtain ⟨a, rfl, ha⟩ := firstsL_mem hz
  exact (InK.of_i64 (x := (a : Int)) (by omega) (by omega)).1
theorem induce {x l : List Int} (hx : Txt x) (hb : x.length ≤ 65536) (hp : l.Perm (firstsL x)) : Ev (fun k => induce_Induce.f k x l) (indL x l, 0) := by
  have hlen := firstsL_len x
  have hpl := hp.length_eq
  unfold induce_Induce.f
  rw [show (fun k => _) = _ from rfl]
  simp only [if_pos (show inKs .i64 x = true ∧ inKs .i64 l = true ∧ l.length ≤ 65536 from ⟨inKs_true (txt_wf hx), inKs_true fun z hz => firstsL_wf x hb z (hp.mem_iff.1 hz), by omega⟩)]
  refine Ev.bind (firsts x hb (txt_wf hx)) ?_
  rw [if_pos hx]
  simp only [if_true, if_pos (show inKs .i64 (firstsL x) = true ∧ (firstsL x).Pairwise (· ≤ ·) from ⟨inKs_true (firstsL_wf x hb), (firstsL_lt x).imp fun h => by omega⟩), if_pos (List.isPerm_iff.2 hp)]
  exact Ev.bind (induced hx hb hp) (Ev.now _)


theorem so_l1 (x S F : List Int) (hF : F.Pairwise (· < ·)) (hS : S.length < 1000000) (hFl : F.length < 1000000) (i : Nat) (hi : i < S.length) (r : Bool) :
    ∀ d j : Nat, j + d = F.length → ∀ acc : List Int, acc.length + d < 4000000 →
      Ev (fun k => incipitlaw16_InduceSorts.l0 k x S F (acc ++ if S.getD i 0 ∈ F.drop j then [S.getD i 0] else []) ((i + 1 : Nat) : Int)) r →
      Ev (fun k => incipitlaw16_InduceSorts.l1 k x S F acc (i : Int) (j : Int)) r := by
  intro d
  induction d with
  | zero =>
    intro j hj acc ha h
    rw [List.drop_of_length_le (by omega), if_neg (by simp), List.append_nil] at h
    refine Ev_to h fun k => ?_
    simp only [incipitlaw16_InduceSorts.l1]
    rw [if_neg (by omega), w_succ i (by omega)]
  | succ d ih =>
    intro j hj acc ha h
    have hdr := drop_cons F j 0 (by omega)
    by_cases e : F.getD j 0 = S.getD i 0
    · have hn : ¬ S.getD i 0 ∈ F.drop (j + 1) := fun hm => by
        have h1 : (F.drop j).Pairwise (· < ·) := List.Pairwise.sublist (List.drop_sublist _ _) hF
        rw [hdr] at h1
        have := (List.pairwise_cons.1 h1).1 _ hm
        omega
      rw [hdr, if_pos (by rw [e]; simp)] at h
      refine Ev_to (ih (j + 1) (by omega) (acc ++ [S.getD i 0]) (by rw [List.length_append]; simp; omega) (by rw [if_neg hn, List.append_nil]; exact h)) fun k => ?_
      simp only [incipitlaw16_InduceSorts.l1]
      rw [if_pos (by omega), if_pos (by omega), if_pos (by omega), if_pos (by omega), rd_nat, rd_nat, if_pos e, if_pos (by omega), w_succ j (by omega)]
    · have hm : S.getD i 0 ∈ F.drop j ↔ S.getD i 0 ∈ F.drop (j + 1) := by
        rw [hdr, List.mem_cons]
        exact ⟨fun h => h.elim (fun h => absurd h.symm e) id, .inr⟩
      refine Ev_to (ih (j + 1) (by omega) acc (by omega) ?_) fun k => ?_
      · by_cases h5 : S.getD i 0 ∈ F.drop j
        · rw [if_pos h5] at h; rw [if_pos (hm.1 h5)]; exact h
        · rw [if_neg h5] at h; rw [if_neg (fun h6 => h5 (hm.2 h6))]; exact h
      · simp only [incipitlaw16_InduceSorts.l1]
        rw [if_pos (by omega), if_pos (by omega), if_pos (by omega), if_pos (by omega), rd_nat, rd_nat, if_neg e, w_succ j (by omega)]
/-- Those of a list that stand in another one. -/
def sel (F S : List Int) : List Int := S.filter fun z => decide (z ∈ F)
theorem sel_succ (F S : List Int) (i : Nat) (h : i < S.length) : sel F (S.take (i + 1)) = sel F (S.take i) ++ if S.getD i 0 ∈ F then [S.getD i 0] else [] := by
  unfold sel
  rw [take_succ_getD S i 0 h, List.filter_append]
  congr 1
  generalize S.getD i 0 = z
  by_cases hz : z ∈ F
  · simp [hz]
  · simp [hz]
theorem sel_len (F S : List Int) : (sel F S).length ≤ S.length := List.length_filter_le _ _
theorem so_l0 (x S F : List Int) (hF : F.Pairwise (· < ·)) (hS : S.length < 1000000) (hFl : F.length < 1000000) (r : Bool)
    (hend : Ev (fun k => (induce_Induce.f k x (sel F S)).bind fun bt => ((incipitlaw16_known.f k).bind fun t => (if t = true then (if bt.2 = 0 then ((incipitref06_Same.f k bt.1 S).bind fun t => some t) else some false) else some false))) r) :
    ∀ d i : Nat, i + d = S.length → Ev (fun k => incipitlaw16_InduceSorts.l0 k x S F (sel F (S.take i)) (i : Int)) r := by
  intro d
  induction d with
  | zero =>
    intro i hi
    rw [List.take_of_length_le (by omega)]
    refine Ev_to hend fun k => ?_
    simp only [incipitlaw16_InduceSorts.l0]
    rw [if_neg (by omega)]
  | succ d ih =>
    intro i hi
    have h1 := ih (i + 1) (by omega)
    rw [sel_succ F S i (by omega)] at h1
    have h2 := sel_len F (S.take i)
    rw [List.length_take] at h2
    refine Ev_to (so_l1 x S F hF hS hFl i (by omega) r F.length 0 (by omega) (sel F (S.take i)) (by omega) (by rw [List.drop_zero]; exact h1)) fun k => ?_
    simp only [incipitlaw16_InduceSorts.l0]
    rw [if_pos (by omega)]
    rfl
theorem mem_sortS (x : List Int) (z : Int) : z ∈ sortS x ↔ ∃ i : Nat, z = (i : Int) ∧ i < x.length := by
  unfold sortS
  rw [List.mem_map]
  constructor
  · rintro ⟨i, hi, rfl⟩
    exact ⟨i, rfl, List.mem_range.1 ((sortN_perm x x.length).mem_iff.1 hi)⟩
  · rintro ⟨i, rfl, hi⟩
    exact ⟨i, (sortN_perm x x.length).mem_iff.2 (List.mem_range.2 hi), rfl⟩
theorem sortS_nodup (x : List Int) : (sortS x).Nodup := by
  have := (sortN_perm x x.length).nodup_iff.2 List.nodup_range
  rw [List.nodup_iff_pairwise_ne] at this ⊢
  unfold sortS
  rw [List.pairwise_map]
  exact this.imp fun hne e => hne (Int.ofNat.inj e)
theorem sel_perm (x : List Int) : (sel (firstsL x) (sortS x)).Perm (firstsL x) := by
  refine (List.perm_ext_iff_of_nodup ((sortS_nodup x).filter _) (firstsL_nodup x)).2 fun z => ?_
  show z ∈ List.filter _ _ ↔ _
  rw [List.mem_filter, mem_sortS]
  constructor
  · rintro ⟨_, h⟩; simpa using h
  · intro h
    obtain ⟨a, rfl, ha⟩ := firstsL_mem h
    exact ⟨⟨a, rfl, ha⟩, by simpa using h⟩
theorem sel_ind {x : List Int} (hx : Txt x) (hb : x.length ≤ 65536) : indL x (sel (firstsL x) (sortS x)) = sortS x := by
  unfold indL
  by_cases h1 : x.length = 1
  · rw [if_pos h1]
    have h2 := sortS_len x
    rw [h1] at h2
    obtain ⟨z, hz⟩ := List.length_eq_one_iff.1 h2
    have h3 : z ∈ sortS x := by rw [hz]; simp
    obtain ⟨i, rfl, hi⟩ := (mem_sortS x z).1 h3
    rw [hz, show i = 0 by omega]
    rfl
  · rw [if_neg h1]
    have h2 : 2 ≤ x.length := by have := hx.pos; omega
    have hfs := fsP_of hx hb h2 (sel_perm x)
    refine Ind.ind_sorted (tx_of hx) h2 hfs.mem ?_
    unfold sel sortS
    rw [List.filter_map, List.map_map]
    rw [List.map_congr_left (g := id) fun i _ => by simp, List.map_id]
    exact List.Pairwise.filter _ (sortN_rises x x.length (Nat.le_refl _))
theorem InduceSorts : incipitlaw16_InduceSorts.Pure := by
  intro l0 a1 _ _ _ _
  obtain ⟨x, hxe, hx, hL⟩ := text l0 a1
  have hS := sortS_len x
  have hfl := firstsL_len x
  unfold incipitlaw16_InduceSorts.f
  refine Ev.rounds ?_
  refine Ev.bind hxe ?_
  refine Ev.bind (refSort hx (by omega)) ?_
  refine Ev.bind (refFirsts hx (by omega)) ?_
  refine so_l0 x (sortS x) (firstsL x) (firstsL_lt x) (by omega) (by omega) true ?_ (sortS x).length 0 (by omega)
  refine Ev.bind (induce hx (by omega) (sel_perm x)) ?_
  refine Ev.bind known ?_
  simp only [if_true]
  rw [sel_ind hx (by omega)]
  have hs := same6 (sortS x) (sortS x) (by omega)
  rw [decide_eq_true rfl] at hs
  exact Ev.bind hs (Ev.now _)

end Go.Proofs.Ythkofhidhghmmaa.IndSPure
