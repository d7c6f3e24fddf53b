/- Layer 15: the pure side: texts, kinds, first ones. -/
import Derived.Test.YthkofhidhghmmaaSufPure3
import Derived.Test.YthkofhidhghmmaaPSufx6
namespace Go.Proofs.Ythkofhidhghmmaa.SufPure
open Go.RowKit Go.Proofs.Ythkofhidhghmmaa Go.Proofs.Ythkofhidhghmmaa.PSuf Go.Proofs.YthkofhidhghmmaaW.PrintWords Go.Proofs.YthkofhidhghmmaaW.PrintMore
set_option linter.unusedVariables false

theorem tm_range (a : Int) (s : Nat) (h0 : 0 < s) (h1 : s < 4611686018427387904) : 0 ≤ wrap64 (Int.tmod (IntKind.u64.wrap a) (IntKind.u64.wrap (s : Int))) ∧ wrap64 (Int.tmod (IntKind.u64.wrap a) (IntKind.u64.wrap (s : Int))) < s := by
  rw [IntKind.wrap_u64, IntKind.wrap_u64, Int.emod_eq_of_lt (a := (s : Int)) (by omega) (by omega), Int.tmod_eq_emod_of_nonneg (by omega)]
  have h2 := Int.emod_nonneg (a % 18446744073709551616) (b := (s : Int)) (by omega)
  have h3 := Int.emod_lt_of_pos (a % 18446744073709551616) (b := (s : Int)) (by omega)
  rw [w_id (by omega) (by omega)]
  exact ⟨h2, h3⟩
theorem txt_of (o : List Int) (h : ∀ z ∈ o, 1 ≤ z ∧ z ≤ 65535) : Txt (o ++ [0]) := by
  refine ⟨fun x hx => ?_, fun i hi => ?_, by simp⟩
  · rcases List.mem_append.1 hx with hx | hx
    · have := h x hx; omega
    · rw [List.mem_singleton] at hx; omega
  · rw [List.length_append, List.length_singleton] at hi ⊢
    by_cases e : i < o.length
    · have hg : (o ++ [0]).getD i 0 = o.getD i 0 := by simp [List.getD_eq_getElem?_getD, List.getElem?_append_left e]
      have := h _ (getD_mem o i 0 e)
      rw [hg]
      constructor <;> intro h2 <;> omega
    · have hg : (o ++ [0]).getD i 0 = 0 := by
        rw [show i = o.length by omega]
        simp [List.getD_eq_getElem?_getD]
      rw [hg]
      constructor
      · intro _; omega
      · intro _; rfl
theorem text_l (l : List Int) (s : Nat) (h0 : 0 < s) (h1 : s < 10) : ∀ d i : Nat, i + d = min l.length 120 → ∀ o : List Int, o.length = i → (∀ z ∈ o, 1 ≤ z ∧ z ≤ 65535) → ∃ x, Ev (fun k => incipitlaw15_Text.l0 k l (s : Int) o (i : Int)) x ∧ Txt x ∧ x.length ≤ 121 := by
  intro d
  induction d with
  | zero =>
    intro i hi o ho hz
    refine ⟨o ++ [0], Ev_now fun k => ?_, txt_of o hz, by simp; omega⟩
    simp only [incipitlaw15_Text.l0]
    by_cases h : i < l.length
    · rw [if_pos (by omega), if_neg (by omega), if_pos (by omega)]
    · rw [if_neg (by omega), if_pos (by omega)]
  | succ d ih =>
    intro i hi o ho hz
    have hr := tm_range (l.getD i 0) s h0 (by omega)
    generalize hv : wrap64 (Int.tmod (IntKind.u64.wrap (l.getD i 0)) (IntKind.u64.wrap (s : Int))) = v at hr
    obtain ⟨x, hx, hT, hL⟩ := ih (i + 1) (by omega) (o ++ [1 + v]) (by simp; omega) (fun z hz2 => by
      rcases List.mem_append.1 hz2 with h | h
      · exact hz z h
      · rw [List.mem_singleton] at h; omega)
    refine ⟨x, Ev_to hx fun k => ?_, hT, hL⟩
    simp only [incipitlaw15_Text.l0]
    rw [if_pos (by omega), if_pos (by omega), if_pos (by omega), if_neg (by rw [IntKind.wrap_u64]; omega), if_pos (by omega), rd_nat, hv, w_id (x := 1 + v) (by omega) (by omega), w_succ i (by omega)]
theorem text (l : List Int) (a : Int) : ∃ x, Ev (fun k => incipitlaw15_Text.f k l a) x ∧ Txt x ∧ x.length ≤ 121 := by
  have hr := tm_range a 9 (by decide) (by decide)
  have e9 : IntKind.u64.wrap ((9 : Nat) : Int) = 9 := by rw [IntKind.wrap_u64]; rfl
  rw [e9] at hr
  unfold incipitlaw15_Text.f
  generalize wrap64 (Int.tmod (IntKind.u64.wrap a) 9) = v at hr
  rw [w_id (x := 1 + v) (by omega) (by omega)]
  obtain ⟨s, hs⟩ := Int.eq_ofNat_of_zero_le (show 0 ≤ 1 + v by omega)
  rw [hs]
  exact text_l l s (by omega) (by omega) _ 0 (Nat.zero_add _) [] rfl (by simp)
theorem txt_wf {x : List Int} (h : Txt x) : ∀ z ∈ x, (Lit.int .i64 z).wf = true := fun z hz => by
  have := h.rng z hz
  exact (InK.of_i64 (x := z) (by omega) (by omega)).1

/-! ### how much is alike -/
def comL : List Int → List Int → Nat
  | a :: s, b :: t => if a = b then comL s t + 1 else 0
  | _, _ => 0
theorem comL_nil (s : List Int) : comL s [] = 0 := by cases s <;> rfl
theorem common_l (x : List Int) (a b : Nat) (hb : x.length < 1000000) (ha : a ≤ x.length) (hbl : b ≤ x.length) : ∀ d n : Nat, a + n + d = x.length → Ev (fun k => incipitref15_Common.l0 k x (a : Int) (b : Int) (n : Int)) ((n + comL (x.drop (a + n)) (x.drop (b + n)) : Nat) : Int) := by
  intro d
  induction d with
  | zero =>
    intro n hn
    rw [List.drop_of_length_le (i := a + n) (by omega)]
    exact Ev_now fun k => by
      simp only [incipitref15_Common.l0]
      rw [if_neg (by rw [w_id] <;> omega)]; simp [comL]
  | succ d ih =>
    intro n hn
    have ea : wrap64 ((a : Int) + n) = ((a + n : Nat) : Int) := by rw [w_id] <;> omega
    have eb : wrap64 ((b : Int) + n) = ((b + n : Nat) : Int) ∨ x.length ≤ b + n := by
      by_cases h : b + n < x.length
      · exact .inl (by rw [w_id] <;> omega)
      · exact .inr (by omega)
    have eb' : wrap64 ((b : Int) + n) = ((b + n : Nat) : Int) := by rw [w_id] <;> omega
    rw [drop_cons x (a + n) 0 (by omega)]
    by_cases h : b + n < x.length
    · rw [drop_cons x (b + n) 0 h]
      unfold comL
      by_cases e : x.getD (a + n) 0 = x.getD (b + n) 0
      · rw [if_pos e]
        have := ih (n + 1) (by omega)
        rw [show n + 1 + comL (x.drop (a + (n + 1))) (x.drop (b + (n + 1))) = n + (comL (x.drop (a + n + 1)) (x.drop (b + n + 1)) + 1) by rw [Nat.add_assoc a n 1, Nat.add_assoc b n 1]; omega] at this
        exact Ev_to this fun k => by
          simp only [incipitref15_Common.l0]
          rw [ea, eb', if_pos (by omega), if_pos (by omega), if_pos (by omega), if_pos (by omega), if_pos (by rw [rd_nat, rd_nat]; exact e), w_succ n (by omega)]
      · rw [if_neg e]
        exact Ev_now fun k => by
          simp only [incipitref15_Common.l0]
          rw [ea, eb', if_pos (by omega), if_pos (by omega), if_pos (by omega), if_pos (by omega), if_neg (by rw [rd_nat, rd_nat]; exact e)]; rfl
    · rw [List.drop_of_length_le (i := b + n) (by omega), comL_nil]
      exact Ev_now fun k => by
        simp only [incipitref15_Common.l0]
        rw [ea, eb', if_pos (by omega), if_neg (by omega)]; rfl
theorem common (x : List Int) (a b : Nat) (hb : x.length < 1000000) (ha : a ≤ x.length) (hbl : b ≤ x.length) : Ev (fun k => incipitref15_Common.f k x (a : Int) (b : Int)) (comL (x.drop a) (x.drop b) : Int) := by
  have := common_l x a b hb ha hbl (x.length - a) 0 (by omega)
  rw [Nat.zero_add, Nat.add_zero, Nat.add_zero] at this
  exact Ev_as this fun k => rfl
theorem com_spec {x : List Int} (hx : Txt x) : ∀ d a b : Nat, a < x.length → b < x.length → x.length - a ≤ d → a ≠ b →
    a + comL (x.drop a) (x.drop b) < x.length ∧ b + comL (x.drop a) (x.drop b) < x.length ∧ (cmpS x a b < 0 ↔ x.getD (a + comL (x.drop a) (x.drop b)) 0 < x.getD (b + comL (x.drop a) (x.drop b)) 0) := by
  intro d
  induction d with
  | zero => intro a b ha hb hd; omega
  | succ d ih =>
    intro a b ha hb hd hne
    rw [cmpS_step x a b ha hb, drop_cons x a 0 ha, drop_cons x b 0 hb]
    unfold comL
    by_cases e : x.getD a 0 = x.getD b 0
    · obtain ⟨h5, h6⟩ := txt_eq hx ha hb hne e
      obtain ⟨h1, h2, h3⟩ := ih (a + 1) (b + 1) h5 h6 (by omega) (by omega)
      rw [if_pos e, if_neg (by omega), if_neg (by omega)]
      rw [show a + (comL (x.drop (a + 1)) (x.drop (b + 1)) + 1) = a + 1 + comL (x.drop (a + 1)) (x.drop (b + 1)) by omega, show b + (comL (x.drop (a + 1)) (x.drop (b + 1)) + 1) = b + 1 + comL (x.drop (a + 1)) (x.drop (b + 1)) by omega]
      exact ⟨h1, h2, h3⟩
    · rw [if_neg e]
      refine ⟨by omega, by omega, ?_⟩
      simp only [Nat.add_zero]
      by_cases h1 : x.getD a 0 < x.getD b 0
      · rw [if_pos h1]; exact ⟨fun _ => h1, fun _ => by decide⟩
      · rw [if_neg h1, if_pos (by omega)]; exact ⟨fun h => absurd h (by decide), fun h => absurd h h1⟩
theorem refLess {x : List Int} (hx : Txt x) (hb : x.length < 1000000) (a b : Nat) (ha : a < x.length) (hbl : b < x.length) : Ev (fun k => incipitref15_Less.f k x (a : Int) (b : Int)) (decide (cmpS x a b < 0)) := by
  unfold incipitref15_Less.f
  refine Ev.bind (common x a b hb (by omega) (by omega)) ?_
  by_cases e : a = b
  · subst e
    simp only [if_true]
    rw [cmpS_self]
    exact Ev.now _
  · obtain ⟨h1, h2, h3⟩ := com_spec hx x.length a b ha hbl (by omega) e
    generalize comL (x.drop a) (x.drop b) = n at h1 h2 h3
    have ea : wrap64 ((a : Int) + n) = ((a + n : Nat) : Int) := by rw [w_id] <;> omega
    have eb : wrap64 ((b : Int) + n) = ((b + n : Nat) : Int) := by rw [w_id] <;> omega
    refine Ev_eq fun k => ?_
    rw [if_neg (by omega), ea, eb, if_pos (by omega), if_pos (by omega), if_pos (by omega), if_pos (by omega), rd_nat, rd_nat]
    exact congrArg some (decide_eq_decide.2 h3.symm)

/-! ### kinds -/
def kindS (x : List Int) (i : Nat) : Bool := decide (i + 1 = x.length) || decide (cmpS x i (i + 1) < 0)
def kindsL (x : List Int) : List Bool := (List.range x.length).map (kindS x)
theorem kindsL_len (x : List Int) : (kindsL x).length = x.length := by simp [kindsL]
theorem kindsL_get (x : List Int) (i : Nat) (h : i < x.length) : (kindsL x).getD i false = kindS x i := by simp [kindsL, List.getD_eq_getElem?_getD, h]
theorem kindS_step {x : List Int} (hx : Txt x) (i : Nat) (h : i + 1 < x.length) : kindS x i = (decide (x.getD i 0 < x.getD (i + 1) 0) || decide (x.getD i 0 = x.getD (i + 1) 0) && kindS x (i + 1)) := by
  unfold kindS
  rw [decide_eq_false (show ¬ i + 1 = x.length by omega), cmpS_step x i (i + 1) (by omega) h]
  by_cases h1 : x.getD i 0 < x.getD (i + 1) 0
  · rw [if_pos h1, decide_eq_true h1]; simp
  · rw [if_neg h1, decide_eq_false h1]
    by_cases h2 : x.getD i 0 = x.getD (i + 1) 0
    · obtain ⟨_, h4⟩ := txt_eq hx (by omega) h (by omega) h2
      rw [if_neg (by omega), decide_eq_true h2, decide_eq_false (show ¬ i + 1 + 1 = x.length by omega)]; simp
    · rw [if_pos (by omega), decide_eq_false h2]; simp
theorem set_drop {α : Type} (o w : List α) (i : Nat) (d : α) (hl : o.length = w.length) (hi : i < o.length) (h : o.drop (i + 1) = w.drop (i + 1)) : (o.set i (w.getD i d)).drop i = w.drop i := by
  rw [drop_cons _ i d (by rw [List.length_set]; exact hi), drop_cons w i d (by omega), List.drop_set_of_lt (by omega), h]
  simp [List.getD_eq_getElem?_getD, hi]
theorem kinds_l {x : List Int} (hx : Txt x) (hb : x.length < 1000000) : ∀ i : Nat, i ≤ x.length → ∀ o : List Bool, o.length = x.length → o.drop i = (kindsL x).drop i → Ev (fun k => suffix_kinds.l0 k x o ((i : Int) - 1)) (kindsL x) := by
  intro i
  induction i with
  | zero =>
    intro hi o ho h
    rw [List.drop_zero, List.drop_zero] at h
    subst h
    exact Ev_now fun k => by simp only [suffix_kinds.l0]; rw [if_neg (by omega)]
  | succ i ih =>
    intro hi o ho h
    have hp := hx.pos
    have ei : ((i + 1 : Nat) : Int) - 1 = (i : Int) := by omega
    have el : wrap64 ((x.length : Int) - 1) = ((x.length - 1 : Nat) : Int) := by rw [w_id] <;> omega
    have em : wrap64 ((i : Int) - 1) = (i : Int) - 1 := by rw [w_id] <;> omega
    have hs := set_drop o (kindsL x) i false (by rw [kindsL_len, ho]) (by omega) h
    rw [kindsL_get x i (by omega)] at hs
    have hnext := ih (by omega) (o.set i (kindS x i)) (by rw [List.length_set, ho]) hs
    refine Ev_to hnext fun k => ?_
    simp only [suffix_kinds.l0]
    rw [ei, if_pos (by omega), el, em]
    by_cases e : i + 1 = x.length
    · rw [if_pos (by omega), if_pos (by omega), if_pos (by omega), Int.toNat_natCast]
      rw [show kindS x i = true by unfold kindS; rw [decide_eq_true e]; rfl]
    · rw [if_neg (by omega), if_pos (by omega), if_pos (by omega), w_succ i (by omega), if_pos (by omega), if_pos (by omega), rd_nat, rd_nat, Int.toNat_natCast]
      have hk := kindS_step hx i (by omega)
      by_cases h1 : x.getD i 0 < x.getD (i + 1) 0
      · rw [if_pos h1, if_pos (by omega)]
        rw [decide_eq_true h1] at hk
        rw [hk]; rfl
      · rw [if_neg h1]
        rw [decide_eq_false h1] at hk
        by_cases h2 : x.getD i 0 = x.getD (i + 1) 0
        · rw [if_pos h2, if_pos (by omega), if_pos (by omega)]
          rw [decide_eq_true h2] at hk
          have h3 : rdOf false o ((i + 1 : Nat) : Int) = kindS x (i + 1) := by
            unfold rdOf
            rw [Int.toNat_natCast, ← kindsL_get x (i + 1) (by omega)]
            have e3 := congrArg (fun z => z.getD 0 false) h
            simp only [List.getD_eq_getElem?_getD, List.getElem?_drop, Nat.add_zero] at e3
            simp only [List.getD_eq_getElem?_getD]
            exact e3
          rw [h3, hk]; simp
        · rw [if_neg h2, if_pos (by omega)]
          rw [decide_eq_false h2] at hk
          rw [hk]; rfl
theorem kinds {x : List Int} (hx : Txt x) (hb : x.length < 1000000) : Ev (fun k => suffix_kinds.f k x) (kindsL x) := by
  have hp := hx.pos
  have h := kinds_l hx hb x.length (Nat.le_refl _) (List.replicate x.length false) (by simp) (by rw [List.drop_of_length_le (by simp), List.drop_of_length_le (by rw [kindsL_len]; omega)])
  exact Ev_as h fun k => by
    unfold suffix_kinds.f
    rw [if_pos (by omega), if_pos (by omega), Int.toNat_natCast, w_id (x := (x.length : Int) - 1) (by omega) (by omega)]
theorem kindsK (x : List Int) (hb : x.length ≤ 65536) (hw : ∀ z ∈ x, (Lit.int .i64 z).wf = true) : Ev (fun k => suffix_Kinds.f k x) (if Txt x then (kindsL x, 0) else ([], chk x)) := by
  unfold suffix_Kinds.f
  refine Ev.bind (check x hb hw) ?_
  by_cases h : Txt x
  · simp only [if_pos ((txt_iff x).2 h), if_pos h]
    exact Ev.bind (kinds h (by omega)) (Ev.now _)
  · simp only [if_neg (fun e => h ((txt_iff x).1 e)), if_neg h]
    exact Ev.now _
theorem refKinds_l {x : List Int} (hx : Txt x) (hb : x.length < 1000000) : ∀ d i : Nat, i + d = x.length → Ev (fun k => incipitref15_Kinds.l0 k x ((kindsL x).take i) (i : Int)) (kindsL x) := by
  intro d
  induction d with
  | zero =>
    intro i hi
    rw [List.take_of_length_le (by rw [kindsL_len]; omega)]
    exact Ev_now fun k => by simp only [incipitref15_Kinds.l0]; rw [if_neg (by omega)]
  | succ d ih =>
    intro i hi
    have hp := hx.pos
    have el : wrap64 ((x.length : Int) - 1) = ((x.length - 1 : Nat) : Int) := by rw [w_id] <;> omega
    have h := ih (i + 1) (by omega)
    rw [take_succ_getD _ i false (by rw [kindsL_len]; omega), kindsL_get x i (by omega)] at h
    have hlen : ((kindsL x).take i).length < 140737488355328 := by rw [List.length_take, kindsL_len]; omega
    by_cases e : i + 1 = x.length
    · refine Ev_to h fun k => ?_
      simp only [incipitref15_Kinds.l0]
      rw [if_pos (by omega), el, if_pos (by omega), if_pos hlen, w_succ i (by omega), show kindS x i = true by unfold kindS; rw [decide_eq_true e]; rfl]
    · have hl := refLess hx hb i (i + 1) (by omega) (by omega)
      have hk : kindS x i = decide (cmpS x i (i + 1) < 0) := by unfold kindS; rw [decide_eq_false e]; rfl
      rw [hk] at h
      refine Ev_to (f := fun k => (incipitref15_Less.f k x (i : Int) ((i + 1 : Nat) : Int)).bind fun t => (if ((kindsL x).take i).length < 140737488355328 then incipitref15_Kinds.l0 k x ((kindsL x).take i ++ [t]) ((i + 1 : Nat) : Int) else none)) (Ev.bind hl (by simp only [if_pos hlen]; exact h)) fun k => ?_
      simp only [incipitref15_Kinds.l0]
      rw [if_pos (by omega), el, if_neg (by omega), w_succ i (by omega)]
theorem refKinds {x : List Int} (hx : Txt x) (hb : x.length < 1000000) : Ev (fun k => incipitref15_Kinds.f k x) (kindsL x) := refKinds_l hx hb x.length 0 (by omega)

/-! ### the first ones -/
def firstAt (ks : List Bool) (i : Nat) : Bool := decide (1 ≤ i) && ks.getD i false && !ks.getD (i - 1) false
def firstsOf (ks : List Bool) (m : Nat) : List Int := ((List.range m).filter (firstAt ks)).map Int.ofNat
theorem firstsOf_succ (ks : List Bool) (m : Nat) : firstsOf ks (m + 1) = firstsOf ks m ++ (if firstAt ks m = true then [(m : Int)] else []) := by
  unfold firstsOf
  rw [List.range_succ, List.filter_append, List.map_append]
  by_cases h : firstAt ks m = true
  · simp [h]
  · simp [h]
theorem firstsOf_len (ks : List Bool) (m : Nat) : (firstsOf ks m).length ≤ m := by
  unfold firstsOf
  rw [List.length_map]
  have := List.length_filter_le (firstAt ks) (List.range m)
  rwa [List.length_range] at this
theorem firsts_l (ks : List Bool) (hb : ks.length < 1000000) : ∀ d i : Nat, i + d = ks.length → Ev (fun k => suffix_Firsts.l0 k ks (firstsOf ks i) (ks.length : Int) (i : Int)) (firstsOf ks ks.length, 0) := by
  intro d
  induction d with
  | zero =>
    intro i hi
    rw [show i = ks.length by omega]
    exact Ev_now fun k => by simp only [suffix_Firsts.l0]; rw [if_neg (by omega)]
  | succ d ih =>
    intro i hi
    have h := ih (i + 1) (by omega)
    rw [firstsOf_succ] at h
    have hlen := firstsOf_len ks i
    have hr : rdOf false ks (i : Int) = ks.getD i false := rfl
    refine Ev_to h fun k => ?_
    simp only [suffix_Firsts.l0]
    rw [if_pos (by omega), w_succ i (by omega)]
    by_cases h0 : i = 0
    · subst h0
      rw [if_pos (by omega), if_neg (by unfold firstAt; simp), List.append_nil]
    · have e1 : wrap64 ((i : Int) - 1) = ((i - 1 : Nat) : Int) := by rw [w_id] <;> omega
      have hr1 : rdOf false ks ((i - 1 : Nat) : Int) = ks.getD (i - 1) false := rfl
      rw [if_neg (by omega), if_pos (by omega), if_pos (by omega), hr, e1, hr1]
      unfold firstAt
      rw [decide_eq_true (show 1 ≤ i by omega)]
      cases hk : ks.getD i false with
      | false => simp
      | true =>
        rw [if_pos rfl, if_pos (by omega), if_pos (by omega)]
        cases hk1 : ks.getD (i - 1) false with
        | true => simp
        | false => rw [if_neg (by decide), if_pos (by omega)]; simp
def firstsL (x : List Int) : List Int := firstsOf (kindsL x) x.length
theorem firsts (x : List Int) (hb : x.length ≤ 65536) (hw : ∀ z ∈ x, (Lit.int .i64 z).wf = true) : Ev (fun k => suffix_Firsts.f k x) (if Txt x then (firstsL x, 0) else ([], chk x)) := by
  unfold suffix_Firsts.f
  refine Ev.bind (kindsK x hb hw) ?_
  by_cases h : Txt x
  · simp only [if_pos h, if_true]
    have := firsts_l (kindsL x) (by rw [kindsL_len]; omega) (kindsL x).length 0 (by omega)
    unfold firstsL
    rw [kindsL_len] at this ⊢
    exact this
  · simp only [if_neg h, if_neg (fun e => h ((txt_iff x).1 e))]
    exact Ev.now _
theorem refFirsts_l (ks : List Bool) (hb : ks.length < 1000000) : ∀ d i : Nat, i + d = ks.length → 1 ≤ i → Ev (fun k => incipitref15_Firsts.l0 k ks (firstsOf ks i) (i : Int)) (firstsOf ks ks.length) := by
  intro d
  induction d with
  | zero =>
    intro i hi h1
    rw [show i = ks.length by omega]
    exact Ev_now fun k => by simp only [incipitref15_Firsts.l0]; rw [if_neg (by omega)]
  | succ d ih =>
    intro i hi h1
    have h := ih (i + 1) (by omega) (by omega)
    rw [firstsOf_succ] at h
    have hlen := firstsOf_len ks i
    have hr : rdOf false ks (i : Int) = ks.getD i false := rfl
    have e1 : wrap64 ((i : Int) - 1) = ((i - 1 : Nat) : Int) := by rw [w_id] <;> omega
    have hr1 : rdOf false ks ((i - 1 : Nat) : Int) = ks.getD (i - 1) false := rfl
    refine Ev_to h fun k => ?_
    simp only [incipitref15_Firsts.l0]
    rw [if_pos (by omega), if_pos (by omega), w_succ i (by omega), hr, e1, hr1]
    unfold firstAt
    rw [decide_eq_true h1]
    cases hk : ks.getD i false with
    | false => simp
    | true =>
      rw [if_pos rfl, if_pos (by omega), if_pos (by omega)]
      cases hk1 : ks.getD (i - 1) false with
      | true => simp
      | false => rw [if_neg (by decide), if_pos (by omega)]; simp
theorem refFirsts {x : List Int} (hx : Txt x) (hb : x.length < 1000000) : Ev (fun k => incipitref15_Firsts.f k x) (firstsL x) := by
  unfold incipitref15_Firsts.f
  refine Ev.bind (refKinds hx hb) ?_
  have hp := hx.pos
  have := refFirsts_l (kindsL x) (by rw [kindsL_len]; omega) (x.length - 1) 1 (by rw [kindsL_len]; omega) (by omega)
  rw [kindsL_len] at this
  exact this
end Go.Proofs.Ythkofhidhghmmaa.SufPure
