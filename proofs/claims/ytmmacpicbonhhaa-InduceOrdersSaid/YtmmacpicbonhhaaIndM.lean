/- Several texts in one: LexC, Ind1, Ind2, Ind3, Ind4, Ind5, Ind6, Ind7, Ind8. -/
import Derived.Sort.Statements
/- Suffixes by comparison, in plain Lean: the order that is told alone is sorted. -/
namespace Go.Proofs.Ytmmacpicbonhhaa
open Go.Sort

/-- Lexicographic comparison. -/
def lexC : List Int → List Int → Int
  | [], [] => 0
  | [], _ :: _ => -1
  | _ :: _, [] => 1
  | a :: s, b :: t => if a < b then -1 else if b < a then 1 else lexC s t
theorem lexC_self : ∀ s, lexC s s = 0
  | [] => rfl
  | a :: s => by unfold lexC; rw [if_neg (by omega), if_neg (by omega)]; exact lexC_self s
theorem lexC_swap : ∀ s t, lexC t s = - lexC s t
  | [], [] => rfl
  | [], _ :: _ => rfl
  | _ :: _, [] => rfl
  | a :: s, b :: t => by
    unfold lexC
    by_cases h1 : a < b
    · rw [if_neg (show ¬ b < a by omega), if_pos h1, if_pos h1]; rfl
    · by_cases h2 : b < a
      · rw [if_pos h2, if_neg h1, if_pos h2]
      · rw [if_neg h2, if_neg h1, if_neg h1, if_neg h2]; exact lexC_swap s t
theorem lexC_eq : ∀ s t, lexC s t = 0 → s = t
  | [], [], _ => rfl
  | [], _ :: _, h => by simp [lexC] at h
  | _ :: _, [], h => by simp [lexC] at h
  | a :: s, b :: t, h => by
    unfold lexC at h
    by_cases h1 : a < b
    · rw [if_pos h1] at h; omega
    · by_cases h2 : b < a
      · rw [if_neg h1, if_pos h2] at h; omega
      · rw [if_neg h1, if_neg h2] at h
        rw [show a = b by omega, lexC_eq s t h]
theorem lexC_trans : ∀ s t u, lexC s t < 0 → lexC t u < 0 → lexC s u < 0
  | [], [], _, h, _ => by simp [lexC] at h
  | _ :: _, [], _, h, _ => by simp [lexC] at h
  | _, _ :: _, [], _, h => by simp [lexC] at h
  | [], _ :: _, _ :: _, _, _ => by simp [lexC]
  | a :: s, b :: t, c :: u, h, h' => by
    unfold lexC at h h' ⊢
    by_cases h1 : a < b
    · by_cases h2 : c < b
      · rw [if_neg (by omega), if_pos h2] at h'; omega
      · rw [if_pos (by omega)]; omega
    · by_cases h2 : b < a
      · rw [if_neg h1, if_pos h2] at h; omega
      · rw [if_neg h1, if_neg h2] at h
        obtain rfl : a = b := by omega
        by_cases h3 : a < c
        · rw [if_pos h3]; omega
        · by_cases h4 : c < a
          · rw [if_neg h3, if_pos h4] at h'; omega
          · rw [if_neg h3, if_neg h4] at h' ⊢
            exact lexC_trans s t u h h'
/-- The suffixes at two places. -/
def cmpS (l : List Int) (i j : Nat) : Int := lexC (l.drop i) (l.drop j)
theorem cmpS_swap (l : List Int) (i j : Nat) : cmpS l j i = - cmpS l i j := lexC_swap _ _
theorem cmpS_eq {l : List Int} {i j : Nat} (hi : i < l.length) (hj : j < l.length) (h : cmpS l i j = 0) : i = j := by
  have := congrArg List.length (lexC_eq _ _ h)
  rw [List.length_drop, List.length_drop] at this
  omega
theorem cmpS_trans {l : List Int} {i j k : Nat} (h : cmpS l i j < 0) (h' : cmpS l j k < 0) : cmpS l i k < 0 := lexC_trans _ _ _ h h'
theorem cmpS_self (l : List Int) (i : Nat) : cmpS l i i = 0 := lexC_self _
theorem cmpS_ntrans {l : List Int} {i j k : Nat} (h : 0 ≤ cmpS l i j) (h' : 0 ≤ cmpS l j k) : 0 ≤ cmpS l i k := by
  have e1 := cmpS_swap l i j
  have e2 := cmpS_swap l j k
  have e3 := cmpS_swap l i k
  by_cases h1 : cmpS l i j = 0
  · have := lexC_eq _ _ h1
    unfold cmpS at h' ⊢
    rw [this]; exact h'
  · by_cases h2 : cmpS l j k = 0
    · have := lexC_eq _ _ h2
      unfold cmpS at h ⊢
      rw [← this]; exact h
    · have := cmpS_trans (l := l) (i := k) (j := j) (k := i) (by omega) (by omega)
      omega

/-- A place put where it belongs. -/
def insS (l : List Int) (x : Nat) : List Nat → List Nat
  | [] => [x]
  | y :: t => if cmpS l y x < 0 then y :: insS l x t else x :: y :: t
/-- The places ahead of n, their suffixes rising. -/
def sortN (l : List Int) : Nat → List Nat
  | 0 => []
  | n + 1 => insS l n (sortN l n)
/-- The order of a text's suffixes. -/
def sortS (l : List Int) : List Int := (sortN l l.length).map Int.ofNat
theorem insS_perm (l : List Int) (x : Nat) : ∀ t, (insS l x t).Perm (x :: t)
  | [] => List.Perm.refl _
  | y :: t => by
    unfold insS
    split
    · exact ((insS_perm l x t).cons y).trans (List.Perm.swap x y t)
    · exact List.Perm.refl _
theorem sortN_perm (l : List Int) : ∀ n, (sortN l n).Perm (List.range n)
  | 0 => List.Perm.refl _
  | n + 1 => by
    rw [List.range_succ]
    exact (insS_perm l n _).trans (((sortN_perm l n).cons n).trans (List.perm_append_singleton n _).symm)
theorem sortN_mem (l : List Int) (n x : Nat) : x ∈ sortN l n ↔ x < n := by rw [(sortN_perm l n).mem_iff, List.mem_range]
/-- Rising. -/
def Rises (l : List Int) (o : List Nat) : Prop := o.Pairwise fun i j => cmpS l i j < 0
theorem insS_rises (l : List Int) (x : Nat) (hx : x < l.length) : ∀ t, Rises l t → (∀ y ∈ t, y < l.length ∧ y ≠ x) → Rises l (insS l x t)
  | [], _, _ => by simp [insS, Rises]
  | y :: t, h, hm => by
    obtain ⟨h1, h2⟩ := List.pairwise_cons.1 h
    unfold insS
    split
    · rename_i hlt
      refine List.pairwise_cons.2 ⟨fun z hz => ?_, insS_rises l x hx t h2 fun z hz => hm z (List.mem_cons_of_mem _ hz)⟩
      rcases List.mem_cons.1 ((insS_perm l x t).mem_iff.1 hz) with rfl | hz
      · exact hlt
      · exact h1 z hz
    · rename_i hge
      have hy := hm y (List.mem_cons_self ..)
      have hne : cmpS l y x ≠ 0 := fun e => hy.2 (cmpS_eq hy.1 hx e)
      have e := cmpS_swap l y x
      have hxy : cmpS l x y < 0 := by omega
      refine List.pairwise_cons.2 ⟨fun z hz => ?_, h⟩
      rcases List.mem_cons.1 hz with rfl | hz
      · exact hxy
      · exact cmpS_trans hxy (h1 z hz)
theorem sortN_rises (l : List Int) : ∀ n, n ≤ l.length → Rises l (sortN l n)
  | 0, _ => List.Pairwise.nil
  | n + 1, h => insS_rises l n (by omega) _ (sortN_rises l n (by omega)) fun y hy => by have := (sortN_mem l n y).1 hy; omega
theorem sortN_len (l : List Int) (n : Nat) : (sortN l n).length = n := by rw [(sortN_perm l n).length_eq, List.length_range]
theorem sortS_len (l : List Int) : (sortS l).length = l.length := by unfold sortS; rw [List.length_map, sortN_len]
/-- Two rising rows of the same places are one. -/
theorem Rises.one {l : List Int} : ∀ {a b : List Nat}, Rises l a → Rises l b → a.Perm b → a = b
  | [], b, _, _, h => (h.nil_eq)
  | x :: a, [], _, _, h => by have := h.length_eq; simp at this
  | x :: a, y :: b, ha, hb, h => by
    obtain ⟨a1, a2⟩ := List.pairwise_cons.1 ha
    obtain ⟨b1, b2⟩ := List.pairwise_cons.1 hb
    obtain rfl : x = y := by
      by_cases e : x = y
      · exact e
      · have hx : x ∈ b := by
          rcases List.mem_cons.1 (h.mem_iff.1 (List.mem_cons_self ..)) with h | h
          · exact absurd h e
          · exact h
        have hy : y ∈ a := by
          rcases List.mem_cons.1 (h.mem_iff.2 (List.mem_cons_self ..)) with h | h
          · exact absurd h.symm e
          · exact h
        have h1 := a1 y hy
        have h2 := b1 x hx
        have := cmpS_swap l x y
        omega
    rw [Rises.one a2 b2 (List.perm_cons x |>.1 h)]
end Go.Proofs.Ytmmacpicbonhhaa

/- Induced sorting, plain: kinds, first Ss, pieces compared; what slots must say so that all suffixes (or all pieces) stand sorted. -/
namespace Go.Proofs.Ytmmacpicbonhhaa.Ind
open Go.Proofs.Ytmmacpicbonhhaa

/-- A text: its last code is 0, the others are greater. -/
structure Tx (x : List Int) : Prop where
  pos : 0 < x.length
  last : x.getD (x.length - 1) 0 = 0
  mid : ∀ i, i + 1 < x.length → 0 < x.getD i 0
theorem step (x : List Int) (a b : Nat) (ha : a < x.length) (hb : b < x.length) : cmpS x a b = if x.getD a 0 < x.getD b 0 then -1 else if x.getD b 0 < x.getD a 0 then 1 else cmpS x (a + 1) (b + 1) := by
  unfold cmpS
  rw [List.drop_eq_getElem_cons ha, List.drop_eq_getElem_cons hb]
  simp only [lexC, List.getD_eq_getElem?_getD, List.getElem?_eq_getElem ha, List.getElem?_eq_getElem hb, Option.getD_some]
/-- Is a suffix less than the next one? -/
def knd (x : List Int) (i : Nat) : Bool := decide (i + 1 = x.length) || decide (cmpS x i (i + 1) < 0)
def lms (x : List Int) (i : Nat) : Bool := decide (1 ≤ i) && knd x i && !knd x (i - 1)
variable {x : List Int}
theorem knd_last (h : Tx x) : knd x (x.length - 1) = true := by
  have := h.pos
  unfold knd
  rw [decide_eq_true (by omega)]
  rfl
theorem zero_last (h : Tx x) {i : Nat} (hi : i < x.length) (h0 : x.getD i 0 = 0) : i + 1 = x.length := Classical.byContradiction fun hn => by
  have := h.mid i (by omega)
  omega
theorem knd_step (h : Tx x) (i : Nat) (hi : i + 1 < x.length) : knd x i = (decide (x.getD i 0 < x.getD (i + 1) 0) || decide (x.getD i 0 = x.getD (i + 1) 0) && knd x (i + 1)) := by
  unfold knd
  rw [decide_eq_false (show ¬ i + 1 = x.length by omega), Bool.false_or, step x i (i + 1) (by omega) hi]
  by_cases h1 : x.getD i 0 < x.getD (i + 1) 0
  · rw [if_pos h1, decide_eq_true h1]; rfl
  · rw [if_neg h1, decide_eq_false h1, Bool.false_or]
    by_cases h2 : x.getD (i + 1) 0 < x.getD i 0
    · rw [if_pos h2, decide_eq_false (show ¬ x.getD i 0 = x.getD (i + 1) 0 by omega)]; rfl
    · rw [if_neg h2, decide_eq_true (show x.getD i 0 = x.getD (i + 1) 0 by omega), Bool.true_and]
      by_cases h3 : i + 1 + 1 = x.length
      · exfalso
        have e1 := h.last
        rw [show x.length - 1 = i + 1 by omega] at e1
        have e2 := h.mid i (by omega)
        omega
      · rw [decide_eq_false h3, Bool.false_or]
theorem kndL (h : Tx x) {i : Nat} (hi : i < x.length) (hk : knd x i = false) : i + 1 < x.length ∧ (x.getD (i + 1) 0 < x.getD i 0 ∨ x.getD (i + 1) 0 = x.getD i 0 ∧ knd x (i + 1) = false) := by
  have h1 : i + 1 < x.length := Classical.byContradiction fun hn => by
    have := knd_last h
    rw [show x.length - 1 = i by omega, hk] at this
    cases this
  refine ⟨h1, ?_⟩
  rw [knd_step h i h1, Bool.or_eq_false_iff, decide_eq_false_iff_not, Bool.and_eq_false_iff, decide_eq_false_iff_not] at hk
  rcases hk.2 with h2 | h2
  · omega
  · by_cases e : x.getD (i + 1) 0 = x.getD i 0
    · exact .inr ⟨e, h2⟩
    · omega
theorem kndS (h : Tx x) {i : Nat} (hi : i + 1 < x.length) (hk : knd x i = true) : x.getD i 0 < x.getD (i + 1) 0 ∨ x.getD (i + 1) 0 = x.getD i 0 ∧ knd x (i + 1) = true := by
  rw [knd_step h i hi, Bool.or_eq_true, decide_eq_true_iff, Bool.and_eq_true, decide_eq_true_iff] at hk
  rcases hk with h2 | h2
  · exact .inl h2
  · exact .inr ⟨h2.1.symm, h2.2⟩
/-- Behind an L stands an L or a first S. -/
theorem next_lms {i : Nat} (hk : knd x i = false) (hs : knd x (i + 1) = true) : lms x (i + 1) = true := by
  unfold lms
  rw [decide_eq_true (by omega), hs, show i + 1 - 1 = i by omega, hk]
  rfl
theorem lms_iff {i : Nat} : lms x i = true ↔ 1 ≤ i ∧ knd x i = true ∧ knd x (i - 1) = false := by
  unfold lms
  rw [Bool.and_eq_true, Bool.and_eq_true, decide_eq_true_iff, Bool.not_eq_true', and_assoc]
theorem lms_next {i : Nat} : lms x (i + 1) = true ↔ knd x (i + 1) = true ∧ knd x i = false := by
  rw [lms_iff, show i + 1 - 1 = i by omega]
  exact ⟨fun h => h.2, fun h => ⟨by omega, h⟩⟩

/-- Of one code: an L is less than an S. -/
theorem l_less_s (h : Tx x) : ∀ d i j : Nat, x.length - i ≤ d → i < x.length → j < x.length → x.getD i 0 = x.getD j 0 → knd x i = false → knd x j = true → cmpS x i j < 0 := by
  intro d
  induction d with
  | zero => intro i j hd hi; omega
  | succ d ih =>
    intro i j hd hi hj e hki hkj
    obtain ⟨h1, h2⟩ := kndL h hi hki
    have hj1 : j + 1 < x.length := Classical.byContradiction fun hn => by
      have e1 := h.last
      rw [show x.length - 1 = j by omega] at e1
      have := h.mid i h1
      omega
    have h3 := kndS h hj1 hkj
    rw [step x i j hi hj, if_neg (by omega), if_neg (by omega)]
    rcases h2 with h2 | h2
    · rw [step x (i + 1) (j + 1) h1 hj1, if_pos (by omega)]; decide
    · rcases h3 with h3 | h3
      · rw [step x (i + 1) (j + 1) h1 hj1, if_pos (by omega)]; decide
      · exact ih (i + 1) (j + 1) (by omega) h1 hj1 (by omega) h2.2 h3.2

/-- Pieces compared behind a code that both have. -/
def zt (x : List Int) : Nat → Nat → Nat → Int
  | 0, _, _ => 0
  | d + 1, i, j => if x.getD (i + 1) 0 < x.getD (j + 1) 0 then -1 else if x.getD (j + 1) 0 < x.getD (i + 1) 0 then 1 else if lms x (i + 1) = true then (if lms x (j + 1) = true then 0 else 1) else if lms x (j + 1) = true then -1 else zt x d (i + 1) (j + 1)
/-- Pieces compared: from a place to the next first S; one that the other one begins with is greater. -/
def zc (x : List Int) (i j : Nat) : Int := if x.getD i 0 < x.getD j 0 then -1 else if x.getD j 0 < x.getD i 0 then 1 else if i + 1 = x.length ∨ j + 1 = x.length then 0 else zt x x.length i j

/-- The slots of the first pass: Ls and first Ss. -/
structure S1 (x : List Int) (s : Nat → Nat) (rk : Nat → Nat) : Prop where
  bucket : ∀ i j, i < x.length → j < x.length → (knd x i = false ∨ lms x i = true) → (knd x j = false ∨ lms x j = true) → x.getD i 0 < x.getD j 0 → s i < s j
  ls : ∀ i j, i < x.length → j < x.length → knd x i = false → lms x j = true → x.getD i 0 = x.getD j 0 → s i < s j
  seed : ∀ i j, i < x.length → j < x.length → lms x i = true → lms x j = true → x.getD i 0 = x.getD j 0 → (s i < s j ↔ rk i < rk j)
  ll : ∀ i j, i < x.length → j < x.length → knd x i = false → knd x j = false → x.getD i 0 = x.getD j 0 → (s i < s j ↔ s (i + 1) < s (j + 1))
/-- The slots of the second pass: all. -/
structure S2 (x : List Int) (s1 s : Nat → Nat) : Prop where
  bucket : ∀ i j, i < x.length → j < x.length → x.getD i 0 < x.getD j 0 → s i < s j
  ls : ∀ i j, i < x.length → j < x.length → knd x i = false → knd x j = true → x.getD i 0 = x.getD j 0 → s i < s j
  ll : ∀ i j, i < x.length → j < x.length → knd x i = false → knd x j = false → x.getD i 0 = x.getD j 0 → (s i < s j ↔ s1 i < s1 j)
  ss : ∀ i j, i + 1 < x.length → j + 1 < x.length → knd x i = true → knd x j = true → x.getD i 0 = x.getD j 0 → (s i < s j ↔ s (i + 1) < s (j + 1))

theorem cmp_lt_asymm {i j : Nat} (h : cmpS x i j < 0) : ¬ cmpS x j i < 0 := by
  rw [cmpS_swap x i j]
  omega
theorem full1 (h : Tx x) {s rk : Nat → Nat} (h1 : S1 x s rk) (hrk : ∀ i j, i < x.length → j < x.length → lms x i = true → lms x j = true → (rk i < rk j ↔ cmpS x i j < 0)) :
    ∀ d i j : Nat, x.length - i ≤ d → i < x.length → j < x.length → (knd x i = false ∨ lms x i = true) → (knd x j = false ∨ lms x j = true) → (s i < s j ↔ cmpS x i j < 0) := by
  intro d
  induction d with
  | zero => intro i j hd hi; omega
  | succ d ih =>
    intro i j hd hi hj ai aj
    by_cases c1 : x.getD i 0 < x.getD j 0
    · have := h1.bucket i j hi hj ai aj c1
      rw [step x i j hi hj, if_pos c1]
      exact ⟨fun _ => by decide, fun _ => this⟩
    by_cases c2 : x.getD j 0 < x.getD i 0
    · have := h1.bucket j i hj hi aj ai c2
      rw [step x i j hi hj, if_neg c1, if_pos c2]
      exact ⟨fun _ => by omega, fun h => absurd h (by decide)⟩
    have e : x.getD i 0 = x.getD j 0 := by omega
    rcases ai with ki | li
    · rcases aj with kj | lj
      · rw [h1.ll i j hi hj ki kj e, step x i j hi hj, if_neg c1, if_neg c2]
        have ni := (kndL h hi ki).1
        have nj := (kndL h hj kj).1
        refine ih (i + 1) (j + 1) (by omega) ni nj ?_ ?_
        · cases hk : knd x (i + 1) with
          | false => exact .inl rfl
          | true => exact .inr (next_lms ki hk)
        · cases hk : knd x (j + 1) with
          | false => exact .inl rfl
          | true => exact .inr (next_lms kj hk)
      · exact ⟨fun _ => l_less_s h _ i j (Nat.le_refl _) hi hj e ki (lms_iff.1 lj).2.1, fun _ => h1.ls i j hi hj ki lj e⟩
    · rcases aj with kj | lj
      · have hc := l_less_s h _ j i (Nat.le_refl _) hj hi e.symm kj (lms_iff.1 li).2.1
        have hs := h1.ls j i hj hi kj li e.symm
        exact ⟨fun h => by omega, fun h => absurd h (cmp_lt_asymm hc)⟩
      · rw [h1.seed i j hi hj li lj e]
        exact hrk i j hi hj li lj
/-- From the first Ss in the order of their suffixes: all suffixes in order. -/
theorem full2 (h : Tx x) {s1 s rk : Nat → Nat} (h1 : S1 x s1 rk) (h2 : S2 x s1 s) (hrk : ∀ i j, i < x.length → j < x.length → lms x i = true → lms x j = true → (rk i < rk j ↔ cmpS x i j < 0)) :
    ∀ d i j : Nat, x.length - i ≤ d → i < x.length → j < x.length → (s i < s j ↔ cmpS x i j < 0) := by
  intro d
  induction d with
  | zero => intro i j hd hi; omega
  | succ d ih =>
    intro i j hd hi hj
    by_cases c1 : x.getD i 0 < x.getD j 0
    · have := h2.bucket i j hi hj c1
      rw [step x i j hi hj, if_pos c1]
      exact ⟨fun _ => by decide, fun _ => this⟩
    by_cases c2 : x.getD j 0 < x.getD i 0
    · have := h2.bucket j i hj hi c2
      rw [step x i j hi hj, if_neg c1, if_pos c2]
      exact ⟨fun _ => by omega, fun h => absurd h (by decide)⟩
    have e : x.getD i 0 = x.getD j 0 := by omega
    cases ki : knd x i with
    | false =>
      cases kj : knd x j with
      | false =>
        rw [h2.ll i j hi hj ki kj e]
        exact full1 h h1 hrk _ i j (Nat.le_refl _) hi hj (.inl ki) (.inl kj)
      | true => exact ⟨fun _ => l_less_s h _ i j (Nat.le_refl _) hi hj e ki kj, fun _ => h2.ls i j hi hj ki kj e⟩
    | true =>
      cases kj : knd x j with
      | false =>
        have hc := l_less_s h _ j i (Nat.le_refl _) hj hi e.symm kj ki
        have hs := h2.ls j i hj hi kj ki e.symm
        exact ⟨fun h => by omega, fun h => absurd h (cmp_lt_asymm hc)⟩
      | true =>
        by_cases ni : i + 1 < x.length
        · by_cases nj : j + 1 < x.length
          · rw [h2.ss i j ni nj ki kj e, step x i j hi hj, if_neg c1, if_neg c2]
            exact ih (i + 1) (j + 1) (by omega) ni nj
          · exfalso
            have e1 := h.last
            rw [show x.length - 1 = j by omega] at e1
            have := h.mid i ni
            omega
        · have hie : i + 1 = x.length := by omega
          have e1 := h.last
          rw [show x.length - 1 = i by omega] at e1
          have hje := zero_last h hj (by omega)
          have : i = j := by omega
          subst this
          rw [cmpS_self]
          exact ⟨fun h => by omega, fun h => by omega⟩
end Go.Proofs.Ytmmacpicbonhhaa.Ind

/- Induced sorting, plain: pieces. -/
namespace Go.Proofs.Ytmmacpicbonhhaa.Ind
open Go.Proofs.Ytmmacpicbonhhaa
variable {x : List Int}

theorem not_lms_of {i : Nat} (hk : knd x i = true) : lms x (i + 1) = false := by
  cases h : lms x (i + 1) with
  | false => rfl
  | true =>
    have := (lms_next.1 h).2
    rw [hk] at this
    cases this
theorem not_lms_L {i : Nat} (hk : knd x i = false) : lms x i = false := by
  cases h : lms x i with
  | false => rfl
  | true =>
    have := (lms_iff.1 h).2.1
    rw [hk] at this
    cases this
/-- Ahead of the last place stands an L. -/
theorem s_far (h : Tx x) {i : Nat} (hi : i + 1 < x.length) (hk : knd x i = true) : i + 2 < x.length := Classical.byContradiction fun hn => by
  have e := h.last
  rw [show x.length - 1 = i + 1 by omega] at e
  have := h.mid i hi
  rcases kndS h hi hk with h1 | h1
  · omega
  · omega
theorem zt_sl (h : Tx x) : ∀ d i j : Nat, i + 1 < x.length → j < x.length → x.getD i 0 = x.getD j 0 → knd x i = true → knd x j = false → ¬ zt x d i j < 0 := by
  intro d
  induction d with
  | zero => intro i j _ _ _ _ _; rw [zt]; decide
  | succ d ih =>
    intro i j hi hj e ki kj
    have h1 := kndS h hi ki
    obtain ⟨h2, h3⟩ := kndL h hj kj
    rw [zt, if_neg (by omega)]
    by_cases c : x.getD (j + 1) 0 < x.getD (i + 1) 0
    · rw [if_pos c]; decide
    · rw [if_neg c]
      have e1 : x.getD (i + 1) 0 = x.getD i 0 := by omega
      have e2 : x.getD (j + 1) 0 = x.getD j 0 := by omega
      have ki1 : knd x (i + 1) = true := by
        rcases h1 with h1 | h1
        · omega
        · exact h1.2
      have kj1 : knd x (j + 1) = false := by
        rcases h3 with h3 | h3
        · omega
        · exact h3.2
      rw [if_neg (by rw [not_lms_of ki]; decide), if_neg (by rw [not_lms_L kj1]; decide)]
      exact ih (i + 1) (j + 1) (s_far h hi ki) h2 (by omega) ki1 kj1
theorem piece1 (h : Tx x) {s rk : Nat → Nat} (h1 : S1 x s rk) : ∀ d i j : Nat, i < x.length → j < x.length → knd x i = false → knd x j = false → x.getD i 0 = x.getD j 0 → zt x d i j < 0 → s i < s j := by
  intro d
  induction d with
  | zero => intro i j _ _ _ _ _ hz; rw [zt] at hz; exact absurd hz (by decide)
  | succ d ih =>
    intro i j hi hj ki kj e hz
    have ni := (kndL h hi ki).1
    have nj := (kndL h hj kj).1
    have ai : knd x (i + 1) = false ∨ lms x (i + 1) = true := by
      cases hk : knd x (i + 1) with
      | false => exact .inl rfl
      | true => exact .inr (next_lms ki hk)
    have aj : knd x (j + 1) = false ∨ lms x (j + 1) = true := by
      cases hk : knd x (j + 1) with
      | false => exact .inl rfl
      | true => exact .inr (next_lms kj hk)
    rw [h1.ll i j hi hj ki kj e]
    rw [zt] at hz
    by_cases c1 : x.getD (i + 1) 0 < x.getD (j + 1) 0
    · exact h1.bucket _ _ ni nj ai aj c1
    by_cases c2 : x.getD (j + 1) 0 < x.getD (i + 1) 0
    · rw [if_neg c1, if_pos c2] at hz; exact absurd hz (by decide)
    rw [if_neg c1, if_neg c2] at hz
    by_cases li : lms x (i + 1) = true
    · rw [if_pos li] at hz
      split at hz <;> exact absurd hz (by decide)
    · rw [if_neg li] at hz
      have ki1 : knd x (i + 1) = false := ai.resolve_right li
      by_cases lj : lms x (j + 1) = true
      · exact h1.ls _ _ ni nj ki1 lj (by omega)
      · rw [if_neg lj] at hz
        exact ih (i + 1) (j + 1) ni nj ki1 (aj.resolve_right lj) (by omega) hz
theorem piece2_t (h : Tx x) {s1 s rk : Nat → Nat} (h1 : S1 x s1 rk) (h2 : S2 x s1 s) : ∀ d i j : Nat, i + 1 < x.length → j + 1 < x.length → x.getD i 0 = x.getD j 0 → zt x d i j < 0 → s i < s j := by
  intro d
  induction d with
  | zero => intro i j _ _ _ hz; rw [zt] at hz; exact absurd hz (by decide)
  | succ d ih =>
    intro i j hi hj e hz
    cases ki : knd x i with
    | false =>
      cases kj : knd x j with
      | false => exact (h2.ll i j (by omega) (by omega) ki kj e).2 (piece1 h h1 _ i j (by omega) (by omega) ki kj e hz)
      | true => exact h2.ls i j (by omega) (by omega) ki kj e
    | true =>
      cases kj : knd x j with
      | false => exact absurd hz (zt_sl h _ i j hi (by omega) e ki kj)
      | true =>
        rw [h2.ss i j hi hj ki kj e]
        rw [zt, not_lms_of ki, not_lms_of kj] at hz
        by_cases c1 : x.getD (i + 1) 0 < x.getD (j + 1) 0
        · exact h2.bucket _ _ hi hj c1
        by_cases c2 : x.getD (j + 1) 0 < x.getD (i + 1) 0
        · rw [if_neg c1, if_pos c2] at hz; exact absurd hz (by decide)
        rw [if_neg c1, if_neg c2, if_neg (by decide), if_neg (by decide)] at hz
        exact ih (i + 1) (j + 1) (s_far h hi ki) (s_far h hj kj) (by omega) hz
/-- From the first Ss in any order: pieces in order. -/
theorem piece2 (h : Tx x) {s1 s rk : Nat → Nat} (h1 : S1 x s1 rk) (h2 : S2 x s1 s) {i j : Nat} (hi : i < x.length) (hj : j < x.length) (hz : zc x i j < 0) : s i < s j := by
  unfold zc at hz
  by_cases c1 : x.getD i 0 < x.getD j 0
  · exact h2.bucket i j hi hj c1
  by_cases c2 : x.getD j 0 < x.getD i 0
  · rw [if_neg c1, if_pos c2] at hz; exact absurd hz (by decide)
  rw [if_neg c1, if_neg c2] at hz
  by_cases c3 : i + 1 = x.length ∨ j + 1 = x.length
  · rw [if_pos c3] at hz; exact absurd hz (by decide)
  · rw [if_neg c3] at hz
    exact piece2_t h h1 h2 _ i j (by omega) (by omega) (by omega) hz

/-- What pieces tell, suffixes tell. -/
theorem zt_cmp (h : Tx x) : ∀ d i j : Nat, i + 1 < x.length → j + 1 < x.length → x.getD i 0 = x.getD j 0 → zt x d i j < 0 → cmpS x i j < 0 := by
  intro d
  induction d with
  | zero => intro i j _ _ _ hz; rw [zt] at hz; exact absurd hz (by decide)
  | succ d ih =>
    intro i j hi hj e hz
    have hst : cmpS x i j = cmpS x (i + 1) (j + 1) := by rw [step x i j (by omega) (by omega), if_neg (by omega), if_neg (by omega)]
    have two : knd x i = knd x j → cmpS x i j < 0 := fun ek => by
      rw [hst]
      rw [zt] at hz
      by_cases c1 : x.getD (i + 1) 0 < x.getD (j + 1) 0
      · rw [step x _ _ hi hj, if_pos c1]; decide
      by_cases c2 : x.getD (j + 1) 0 < x.getD (i + 1) 0
      · rw [if_neg c1, if_pos c2] at hz; exact absurd hz (by decide)
      rw [if_neg c1, if_neg c2] at hz
      by_cases li : lms x (i + 1) = true
      · rw [if_pos li] at hz
        split at hz <;> exact absurd hz (by decide)
      · rw [if_neg li] at hz
        by_cases lj : lms x (j + 1) = true
        · obtain ⟨kj1, kj⟩ := lms_next.1 lj
          rw [kj] at ek
          have ki1 : knd x (i + 1) = false := by
            cases hk : knd x (i + 1) with
            | false => rfl
            | true => exact absurd (next_lms ek hk) li
          exact l_less_s h _ (i + 1) (j + 1) (Nat.le_refl _) hi hj (by omega) ki1 kj1
        · rw [if_neg lj] at hz
          have far : ∀ k, k + 1 < x.length → ¬ lms x (k + 1) = true → k + 1 + 1 < x.length := fun k hk hl => Classical.byContradiction fun hn => hl (by
            have hkl := knd_last h
            rw [show x.length - 1 = k + 1 by omega] at hkl
            refine lms_next.2 ⟨hkl, ?_⟩
            cases hkk : knd x k with
            | false => rfl
            | true => have := s_far h hk hkk; omega)
          exact ih (i + 1) (j + 1) (far i hi li) (far j hj lj) (by omega) hz
    cases ki : knd x i with
    | false =>
      cases kj : knd x j with
      | false => exact two (by rw [ki, kj])
      | true => exact l_less_s h _ i j (Nat.le_refl _) (by omega) (by omega) e ki kj
    | true =>
      cases kj : knd x j with
      | false => exact absurd hz (zt_sl h _ i j hi (by omega) e ki kj)
      | true => exact two (by rw [ki, kj])
theorem zc_cmp (h : Tx x) {i j : Nat} (hi : i < x.length) (hj : j < x.length) (hz : zc x i j < 0) : cmpS x i j < 0 := by
  unfold zc at hz
  by_cases c1 : x.getD i 0 < x.getD j 0
  · rw [step x i j hi hj, if_pos c1]; decide
  by_cases c2 : x.getD j 0 < x.getD i 0
  · rw [if_neg c1, if_pos c2] at hz; exact absurd hz (by decide)
  rw [if_neg c1, if_neg c2] at hz
  by_cases c3 : i + 1 = x.length ∨ j + 1 = x.length
  · rw [if_pos c3] at hz; exact absurd hz (by decide)
  · rw [if_neg c3] at hz
    exact zt_cmp h _ i j (by omega) (by omega) (by omega) hz
theorem zt_swap : ∀ d i j : Nat, zt x d j i = - zt x d i j := by
  intro d
  induction d with
  | zero => intro i j; rfl
  | succ d ih =>
    intro i j
    rw [zt, zt]
    by_cases c1 : x.getD (i + 1) 0 < x.getD (j + 1) 0
    · rw [if_neg (by omega), if_pos c1, if_pos c1]; rfl
    · by_cases c2 : x.getD (j + 1) 0 < x.getD (i + 1) 0
      · rw [if_pos c2, if_neg c1, if_pos c2]
      · rw [if_neg c2, if_neg c1, if_neg c1, if_neg c2]
        cases lms x (i + 1) <;> cases lms x (j + 1)
        · simp only [Bool.false_eq_true, if_false]; exact ih (i + 1) (j + 1)
        · rfl
        · rfl
        · rfl
theorem zc_swap (i j : Nat) : zc x j i = - zc x i j := by
  unfold zc
  by_cases c1 : x.getD i 0 < x.getD j 0
  · rw [if_neg (by omega), if_pos c1, if_pos c1]; rfl
  · by_cases c2 : x.getD j 0 < x.getD i 0
    · rw [if_pos c2, if_neg c1, if_pos c2]
    · rw [if_neg c2, if_neg c1, if_neg c1, if_neg c2]
      by_cases c3 : i + 1 = x.length ∨ j + 1 = x.length
      · rw [if_pos c3, if_pos (Or.comm.1 c3)]; rfl
      · rw [if_neg c3, if_neg (fun h => c3 (Or.comm.1 h))]
        exact zt_swap _ i j
/-- Like pieces: behind them stand first Ss, and these tell. -/
theorem zt_zero (h : Tx x) : ∀ d i j : Nat, x.length - i ≤ d → i + 1 < x.length → j + 1 < x.length → x.getD i 0 = x.getD j 0 → zt x d i j = 0 →
    ∃ t, 1 ≤ t ∧ i + t < x.length ∧ j + t < x.length ∧ lms x (i + t) = true ∧ lms x (j + t) = true ∧ (∀ u, 1 ≤ u → u < t → lms x (i + u) = false ∧ lms x (j + u) = false) ∧ (∀ u, u ≤ t → x.getD (i + u) 0 = x.getD (j + u) 0) ∧ cmpS x i j = cmpS x (i + t) (j + t) := by
  intro d
  induction d with
  | zero => intro i j hd hi; omega
  | succ d ih =>
    intro i j hd hi hj e hz
    have hst : cmpS x i j = cmpS x (i + 1) (j + 1) := by rw [step x i j (by omega) (by omega), if_neg (by omega), if_neg (by omega)]
    rw [zt] at hz
    by_cases c1 : x.getD (i + 1) 0 < x.getD (j + 1) 0
    · rw [if_pos c1] at hz; exact absurd hz (by decide)
    by_cases c2 : x.getD (j + 1) 0 < x.getD (i + 1) 0
    · rw [if_neg c1, if_pos c2] at hz; exact absurd hz (by decide)
    rw [if_neg c1, if_neg c2] at hz
    have ee : x.getD (i + 1) 0 = x.getD (j + 1) 0 := by omega
    by_cases li : lms x (i + 1) = true
    · rw [if_pos li] at hz
      by_cases lj : lms x (j + 1) = true
      · refine ⟨1, by omega, hi, hj, li, lj, fun u h1 h2 => by omega, fun u hu => ?_, hst⟩
        rcases Nat.eq_zero_or_pos u with rfl | h0
        · exact e
        · obtain rfl : u = 1 := by omega
          exact ee
      · rw [if_neg lj] at hz; exact absurd hz (by decide)
    · rw [if_neg li] at hz
      by_cases lj : lms x (j + 1) = true
      · rw [if_pos lj] at hz; exact absurd hz (by decide)
      · rw [if_neg lj] at hz
        have far : ∀ k, k + 1 < x.length → ¬ lms x (k + 1) = true → k + 1 + 1 < x.length := fun k hk hl => Classical.byContradiction fun hn => hl (by
          have hkl := knd_last h
          rw [show x.length - 1 = k + 1 by omega] at hkl
          refine lms_next.2 ⟨hkl, ?_⟩
          cases hkk : knd x k with
          | false => rfl
          | true => have := s_far h hk hkk; omega)
        obtain ⟨t, t1, t2, t3, t4, t5, t6, t7, t8⟩ := ih (i + 1) (j + 1) (by omega) (far i hi li) (far j hj lj) ee hz
        refine ⟨t + 1, by omega, by omega, by omega, by rw [show i + (t + 1) = i + 1 + t by omega]; exact t4, by rw [show j + (t + 1) = j + 1 + t by omega]; exact t5, fun u h1 h2 => ?_, fun u hu => ?_, by rw [hst, t8, show i + (t + 1) = i + 1 + t by omega, show j + (t + 1) = j + 1 + t by omega]⟩
        · rcases Nat.lt_or_ge 1 u with h3 | h3
          · have := t6 (u - 1) (by omega) (by omega)
            rwa [show i + 1 + (u - 1) = i + u by omega, show j + 1 + (u - 1) = j + u by omega] at this
          · obtain rfl : u = 1 := by omega
            exact ⟨by simpa using li, by simpa using lj⟩
        · rcases Nat.eq_zero_or_pos u with rfl | h0
          · exact e
          · have := t7 (u - 1) (by omega)
            rwa [show i + 1 + (u - 1) = i + u by omega, show j + 1 + (u - 1) = j + u by omega] at this
end Go.Proofs.Ytmmacpicbonhhaa.Ind

/- Induced sorting, plain: the first pass over the order. -/
namespace Go.Proofs.Ytmmacpicbonhhaa.Ind
open Go.Proofs.Ytmmacpicbonhhaa
variable {x : List Int}

/-- How many places are such. -/
def cnt (x : List Int) (p : Nat → Bool) : Nat := ((List.range x.length).filter p).length
theorem cnt_le {p q : Nat → Bool} (h : ∀ i, i < x.length → p i = true → q i = true) : cnt x p ≤ cnt x q := by
  unfold cnt
  have : ∀ l : List Nat, (∀ i ∈ l, i < x.length) → (l.filter p).length ≤ (l.filter q).length := by
    intro l
    induction l with
    | nil => intro _; simp
    | cons a l ih =>
      intro hl
      have := ih fun i hi => hl i (by simp [hi])
      have ha := h a (hl a (by simp))
      rw [List.filter_cons, List.filter_cons]
      by_cases hp : p a = true
      · rw [if_pos hp, if_pos (ha hp)]; simp; omega
      · rw [if_neg hp]
        split
        · simp; omega
        · exact this
  exact this _ fun i hi => List.mem_range.1 hi
theorem cnt_add {p q r : Nat → Bool} (h : ∀ i, i < x.length → r i = (p i || q i)) (hd : ∀ i, i < x.length → ¬ (p i = true ∧ q i = true)) : cnt x r = cnt x p + cnt x q := by
  unfold cnt
  have : ∀ l : List Nat, (∀ i ∈ l, i < x.length) → (l.filter r).length = (l.filter p).length + (l.filter q).length := by
    intro l
    induction l with
    | nil => intro _; simp
    | cons a l ih =>
      intro hl
      have := ih fun i hi => hl i (by simp [hi])
      have h1 := h a (hl a (by simp))
      have h2 := hd a (hl a (by simp))
      rw [List.filter_cons, List.filter_cons, List.filter_cons, h1]
      cases hp : p a <;> cases hq : q a
      · simpa using this
      · simp [this]; omega
      · simp [this]; omega
      · exact absurd ⟨hp, hq⟩ h2
  exact this _ fun i hi => List.mem_range.1 hi
def hd (x : List Int) (c : Int) : Nat := cnt x fun i => decide (x.getD i 0 < c)
def tl (x : List Int) (c : Int) : Nat := cnt x fun i => decide (x.getD i 0 ≤ c)
def lc (x : List Int) (c : Int) : Nat := cnt x fun i => decide (x.getD i 0 = c) && !knd x i
def fc (x : List Int) (c : Int) : Nat := cnt x fun i => decide (x.getD i 0 = c) && lms x i
def sc (x : List Int) (c : Int) : Nat := cnt x fun i => decide (x.getD i 0 = c) && knd x i
theorem tl_le (c : Int) : tl x c ≤ x.length := by
  unfold tl cnt
  have := List.length_filter_le (fun i => decide (x.getD i 0 ≤ c)) (List.range x.length)
  rwa [List.length_range] at this
theorem tl_hd {c d : Int} (h : c < d) : tl x c ≤ hd x d := cnt_le fun i _ h1 => by
  rw [decide_eq_true_iff] at h1 ⊢
  omega
theorem hd_lc_sc (c : Int) : hd x c + (lc x c + sc x c) = tl x c := by
  have h1 : cnt x (fun i => decide (x.getD i 0 = c)) = lc x c + sc x c := cnt_add (fun i _ => by
    cases knd x i <;> simp) (fun i _ => by cases knd x i <;> simp)
  have h2 : tl x c = hd x c + cnt x (fun i => decide (x.getD i 0 = c)) := cnt_add (fun i _ => by
    rw [← Bool.decide_or]
    congr 1
    exact propext ⟨fun h => by omega, fun h => by omega⟩) (fun i _ h => by
    rw [decide_eq_true_iff, decide_eq_true_iff] at h
    omega)
  omega
theorem fc_sc (c : Int) : fc x c ≤ sc x c := cnt_le fun i _ h => by
  rw [Bool.and_eq_true] at h ⊢
  exact ⟨h.1, (lms_iff.1 h.2).2.1⟩
theorem hd_lc (c : Int) : hd x c + lc x c ≤ tl x c - fc x c ∧ hd x c + lc x c + fc x c ≤ tl x c := by
  have := hd_lc_sc (x := x) c
  have := fc_sc (x := x) c
  omega
/-- A slot lies in one bucket. -/
theorem one_bucket {c d : Int} {s : Nat} (h1 : hd x c ≤ s) (h2 : s < tl x c) (h3 : hd x d ≤ s) (h4 : s < tl x d) : c = d := Classical.byContradiction fun hn => by
  rcases Int.lt_or_gt_of_ne hn with h | h
  · have := tl_hd (x := x) h; omega
  · have := tl_hd (x := x) h; omega

theorem pigeonN : ∀ (a b : List Nat), a.Nodup → (∀ y ∈ a, y ∈ b) → a.length ≤ b.length
  | [], _, _, _ => by simp
  | y :: a, b, hn, hs => by
    obtain ⟨h1, h2⟩ := List.nodup_cons.1 hn
    have hy := hs y (by simp)
    have := pigeonN a (b.erase y) h2 fun z hz => (List.mem_erase_of_ne (fun e => h1 (by rw [← e]; exact hz))).2 (hs z (by simp [hz]))
    rw [List.length_erase_of_mem hy] at this
    have := List.length_pos_of_mem hy
    simp only [List.length_cons]
    omega

/-- The order ahead of the first pass: the first Ss at the ends of their buckets. -/
structure Seeds (x o : List Int) (sd rk : Nat → Nat) : Prop where
  len : o.length = x.length
  at_ : ∀ i, i < x.length → lms x i = true → o.getD (sd i) (-1) = (i : Int) ∧ tl x (x.getD i 0) - fc x (x.getD i 0) ≤ sd i ∧ sd i < tl x (x.getD i 0)
  no : ∀ s, s < x.length → o.getD s (-1) = -1 ∨ ∃ i, i < x.length ∧ lms x i = true ∧ sd i = s
  rk : ∀ i j, i < x.length → j < x.length → lms x i = true → lms x j = true → x.getD i 0 = x.getD j 0 → (sd i < sd j ↔ rk i < rk j)

/-- The first pass, up to a slot. -/
structure P1 (x : List Int) (sd : Nat → Nat) (k : Nat) (o : List Int) (h : Int → Nat) : Prop where
  len : o.length = x.length
  keep : ∀ i, i < x.length → lms x i = true → o.getD (sd i) (-1) = (i : Int)
  lo : ∀ c, hd x c ≤ h c
  hi : ∀ c, h c ≤ hd x c + lc x c
  full : ∀ c s, hd x c ≤ s → s < h c → ∃ i, i < x.length ∧ knd x i = false ∧ x.getD i 0 = c ∧ o.getD s (-1) = (i : Int)
  what : ∀ s, s < x.length → o.getD s (-1) = -1 ∨ (∃ i, i < x.length ∧ lms x i = true ∧ sd i = s ∧ o.getD s (-1) = (i : Int)) ∨ (∃ i, i < x.length ∧ knd x i = false ∧ o.getD s (-1) = (i : Int) ∧ hd x (x.getD i 0) ≤ s ∧ s < h (x.getD i 0))
  inj : ∀ s t, s < x.length → t < x.length → ∀ i : Nat, o.getD s (-1) = (i : Int) → o.getD t (-1) = (i : Int) → s = t
  from_ : ∀ s i, s < x.length → i < x.length → knd x i = false → o.getD s (-1) = (i : Int) → ∃ t, t < k ∧ t < s ∧ o.getD t (-1) = ((i + 1 : Nat) : Int)
  done : ∀ t i, t < k → t < x.length → i < x.length → knd x i = false → o.getD t (-1) = ((i + 1 : Nat) : Int) → ∃ s, s < x.length ∧ o.getD s (-1) = (i : Int)
  ord : ∀ s t i j, s < t → t < x.length → i < x.length → j < x.length → knd x i = false → knd x j = false → x.getD i 0 = x.getD j 0 → o.getD s (-1) = (i : Int) → o.getD t (-1) = (j : Int) →
    ∃ s' t', s' < t' ∧ t' < x.length ∧ o.getD s' (-1) = ((i + 1 : Nat) : Int) ∧ o.getD t' (-1) = ((j + 1 : Nat) : Int)

theorem P1.start {o : List Int} {sd rk : Nat → Nat} (hs : Seeds x o sd rk) : P1 x sd 0 o (hd x) := by
  have seedL : ∀ s i, s < x.length → i < x.length → knd x i = false → ¬ o.getD s (-1) = (i : Int) := by
    intro s i h1 h2 h3 h4
    rcases hs.no s h1 with h | ⟨j, hj, hl, rfl⟩
    · omega
    · have := (hs.at_ j hj hl).1
      have e : i = j := by omega
      subst e
      have := (lms_iff.1 hl).2.1
      rw [h3] at this
      cases this
  refine ⟨hs.len, fun i h1 h2 => (hs.at_ i h1 h2).1, fun c => Nat.le_refl _, fun c => Nat.le_add_right _ _, fun c s h1 h2 => by omega, fun s h1 => ?_, fun s t h1 h2 i h3 h4 => ?_, fun s i h1 h2 h3 h4 => absurd h4 (seedL s i h1 h2 h3), fun t i h1 => by omega, fun s t i j h1 h2 h3 h4 h5 h6 _ h7 _ => absurd h7 (seedL s i (by omega) h3 h5)⟩
  · rcases hs.no s h1 with h | ⟨j, hj, hl, rfl⟩
    · exact .inl h
    · exact .inr (.inl ⟨j, hj, hl, rfl, (hs.at_ j hj hl).1⟩)
  · rcases hs.no s h1 with h | ⟨j, hj, hl, rfl⟩
    · omega
    · rcases hs.no t h2 with h | ⟨j', hj', hl', rfl⟩
      · omega
      · have e1 := (hs.at_ j hj hl).1
        have e2 := (hs.at_ j' hj' hl').1
        have : j = j' := by omega
        rw [this]

/-- In which bucket what stands lies. -/
theorem P1.where_ {sd rk : Nat → Nat} {o0 o : List Int} {h : Int → Nat} {k : Nat} (hs : Seeds x o0 sd rk) (hp : P1 x sd k o h) {s i : Nat} (h1 : s < x.length) (h2 : o.getD s (-1) = (i : Int)) :
    i < x.length ∧ (knd x i = false ∨ lms x i = true) ∧ hd x (x.getD i 0) ≤ s ∧ s < tl x (x.getD i 0) ∧ (knd x i = false → s < h (x.getD i 0)) ∧ (lms x i = true → tl x (x.getD i 0) - fc x (x.getD i 0) ≤ s) := by
  rcases hp.what s h1 with h3 | ⟨j, hj, hl, rfl, h4⟩ | ⟨j, hj, hk, h4, h5, h6⟩
  · omega
  · have e : i = j := by omega
    subst e
    have h5 := (hs.at_ i hj hl).2
    have h6 := hd_lc (x := x) (x.getD i 0)
    refine ⟨hj, .inr hl, by omega, h5.2, fun hk => ?_, fun _ => h5.1⟩
    have := (lms_iff.1 hl).2.1
    rw [hk] at this
    cases this
  · have e : i = j := by omega
    subst e
    have h7 := hp.hi (x.getD i 0)
    have h8 := hd_lc (x := x) (x.getD i 0)
    refine ⟨hj, .inl hk, h5, by omega, fun _ => h6, fun hl => ?_⟩
    have := (lms_iff.1 hl).2.1
    rw [hk] at this
    cases this

theorem getD_set (o : List Int) (a s : Nat) (v : Int) (ha : a < o.length) : (o.set a v).getD s (-1) = if s = a then v else o.getD s (-1) := by
  rw [List.getD_eq_getElem?_getD, List.getD_eq_getElem?_getD]
  by_cases h : s = a
  · subst h
    rw [if_pos rfl, List.getElem?_set_self ha]
    rfl
  · rw [if_neg h, List.getElem?_set_ne (Ne.symm h)]

/-- Nothing to do at a slot. -/
theorem P1.skip {sd : Nat → Nat} {o : List Int} {h : Int → Nat} {k : Nat} (hp : P1 x sd k o h) (hk : ∀ i : Nat, i < x.length → knd x i = false → ¬ o.getD k (-1) = ((i + 1 : Nat) : Int)) : P1 x sd (k + 1) o h :=
  ⟨hp.len, hp.keep, hp.lo, hp.hi, hp.full, hp.what, hp.inj, fun s i a b c d => by
    obtain ⟨t, t1, t2⟩ := hp.from_ s i a b c d
    exact ⟨t, by omega, t2⟩, fun t i a b c d e => by
    rcases Nat.lt_succ_iff_lt_or_eq.1 a with a | rfl
    · exact hp.done t i a b c d e
    · exact absurd e (hk i c d), hp.ord⟩

/-- An L is put behind its bucket's Ls. -/
theorem P1.put (ht : Tx x) {sd rk : Nat → Nat} {o0 o : List Int} {h : Int → Nat} {k i : Nat} (hs : Seeds x o0 sd rk) (hp : P1 x sd k o h) (hkn : k < x.length) (hi : i < x.length) (hL : knd x i = false) (hv : o.getD k (-1) = ((i + 1 : Nat) : Int)) :
    h (x.getD i 0) < x.length ∧ k < h (x.getD i 0) ∧ o.getD (h (x.getD i 0)) (-1) = -1 ∧ P1 x sd (k + 1) (o.set (h (x.getD i 0)) (i : Int)) (fun c => if c = x.getD i 0 then h (x.getD i 0) + 1 else h c) := by
  -- not there yet
  have hno : ∀ s, s < x.length → ¬ o.getD s (-1) = (i : Int) := fun s a b => by
    obtain ⟨t, t1, t2, t3⟩ := hp.from_ s i a hi hL b
    have := hp.inj t k (by omega) hkn (i + 1) t3 hv
    omega
  generalize hc : x.getD i 0 = c at *
  -- room
  have hroom : h c < hd x c + lc x c := by
    have hle := hp.hi c
    refine Classical.byContradiction fun hn => ?_
    have he : h c = hd x c + lc x c := by omega
    let f : Nat → Nat := fun s => (o.getD s (-1)).toNat
    have hf : ∀ s, hd x c ≤ s → s < h c → ∃ j, j < x.length ∧ knd x j = false ∧ x.getD j 0 = c ∧ o.getD s (-1) = (j : Int) ∧ f s = j := fun s a b => by
      obtain ⟨j, j1, j2, j3, j4⟩ := hp.full c s a b
      exact ⟨j, j1, j2, j3, j4, by show (o.getD s (-1)).toNat = j; rw [j4]; rfl⟩
    have htl := hd_lc (x := x) c
    have htn := tl_le (x := x) c
    have hnd : ((List.range' (hd x c) (lc x c)).map f).Nodup := by
      rw [List.nodup_iff_pairwise_ne, List.pairwise_map]
      refine (List.nodup_iff_pairwise_ne.1 (List.nodup_range' (s := hd x c) (n := lc x c))).imp_of_mem fun {a b} ha hb hne e => hne ?_
      rw [List.mem_range'_1] at ha hb
      obtain ⟨j, _, _, _, j4, j5⟩ := hf a (by omega) (by omega)
      obtain ⟨j', _, _, _, j4', j5'⟩ := hf b (by omega) (by omega)
      have : j = j' := by rw [← j5, ← j5']; exact e
      subst this
      exact hp.inj a b (by omega) (by omega) j j4 j4'
    have hsub : ∀ y ∈ i :: (List.range' (hd x c) (lc x c)).map f, y ∈ (List.range x.length).filter (fun i => decide (x.getD i 0 = c) && !knd x i) := fun y hy => by
      rw [List.mem_cons] at hy
      rcases hy with rfl | hy
      · rw [List.mem_filter, List.mem_range, hc, hL]; simp [hi]
      · obtain ⟨s, hs1, rfl⟩ := List.mem_map.1 hy
        rw [List.mem_range'_1] at hs1
        obtain ⟨j, j1, j2, j3, j4, j5⟩ := hf s (by omega) (by omega)
        rw [j5, List.mem_filter, List.mem_range, j3, j2]; simp [j1]
    have hnd2 : (i :: (List.range' (hd x c) (lc x c)).map f).Nodup := List.nodup_cons.2 ⟨fun hm => by
      obtain ⟨s, hs1, e⟩ := List.mem_map.1 hm
      rw [List.mem_range'_1] at hs1
      obtain ⟨j, j1, j2, j3, j4, j5⟩ := hf s (by omega) (by omega)
      have : j = i := by rw [← j5]; exact e
      subst this
      exact hno s (by omega) j4, hnd⟩
    have := pigeonN _ _ hnd2 hsub
    rw [List.length_cons, List.length_map, List.length_range'] at this
    have e : ((List.range x.length).filter (fun i => decide (x.getD i 0 = c) && !knd x i)).length = lc x c := rfl
    omega
  have hlo := hp.lo c
  have htl := hd_lc (x := x) c
  have htn := tl_le (x := x) c
  have hsn : h c < x.length := by omega
  have hempty : o.getD (h c) (-1) = -1 := by
    rcases hp.what (h c) hsn with h3 | ⟨j, hj, hl, e, h4⟩ | ⟨j, hj, hk, h4, h5, h6⟩
    · exact h3
    · have w := hp.where_ hs hsn h4
      have e1 := one_bucket (x := x) (c := c) (d := x.getD j 0) (s := h c) (by omega) (by omega) w.2.2.1 w.2.2.2.1
      have e2 := w.2.2.2.2.2 hl
      rw [← e1] at e2
      omega
    · have w := hp.where_ hs hsn h4
      have e1 := one_bucket (x := x) (c := c) (d := x.getD j 0) (s := h c) (by omega) (by omega) w.2.2.1 w.2.2.2.1
      rw [← e1] at h6
      omega
  obtain ⟨n1, n2⟩ := kndL ht hi hL
  have hk : k < h c := by
    have w := hp.where_ hs hkn hv
    rcases n2 with n2 | n2
    · have := tl_hd (x := x) (c := x.getD (i + 1) 0) (d := c) (by omega)
      omega
    · have := w.2.2.2.2.1 n2.2
      rw [n2.1, hc] at this
      exact this
  refine ⟨hsn, hk, hempty, ?_⟩
  have hol : h c < o.length := by rw [hp.len]; exact hsn
  have gs : ∀ s, (o.set (h c) (i : Int)).getD s (-1) = if s = h c then (i : Int) else o.getD s (-1) := fun s => getD_set o (h c) s i hol
  have gold : ∀ s (j : Nat), o.getD s (-1) = (j : Int) → (o.set (h c) (i : Int)).getD s (-1) = (j : Int) := fun s j e => by
    rw [gs, if_neg (fun e2 => by subst e2; omega)]
    exact e
  refine ⟨by rw [List.length_set]; exact hp.len, fun j a b => gold _ _ (hp.keep j a b), fun d => ?_, fun d => ?_, fun d s a b => ?_, fun s a => ?_, fun s t a b j e1 e2 => ?_, fun s j a b e1 e2 => ?_, fun t j a b e1 e2 e3 => ?_, fun s t j j' a b e1 e2 e3 e4 e5 e6 e7 => ?_⟩
  · have := hp.lo d
    show hd x d ≤ if d = c then h c + 1 else h d
    split
    · rename_i e; subst e; omega
    · exact this
  · have := hp.hi d
    show (if d = c then h c + 1 else h d) ≤ _
    split
    · rename_i e; subst e; omega
    · exact this
  · have b : s < if d = c then h c + 1 else h d := b
    by_cases e : s = h c ∧ d = c
    · obtain ⟨rfl, rfl⟩ := e
      exact ⟨i, hi, hL, hc, by rw [gs, if_pos rfl]⟩
    · have b2 : s < h d := by
        split at b
        · rename_i e2; subst e2
          have : ¬ s = h d := fun e3 => e ⟨e3, rfl⟩
          omega
        · exact b
      obtain ⟨j, j1, j2, j3, j4⟩ := hp.full d s a b2
      exact ⟨j, j1, j2, j3, gold _ _ j4⟩
  · rw [gs]
    by_cases e : s = h c
    · rw [if_pos e]
      refine .inr (.inr ⟨i, hi, hL, rfl, by rw [hc]; omega, ?_⟩)
      show s < if x.getD i 0 = c then h c + 1 else h (x.getD i 0)
      rw [if_pos hc]
      omega
    · rw [if_neg e]
      rcases hp.what s a with h3 | h3 | ⟨j, j1, j2, j3, j4, j5⟩
      · exact .inl h3
      · exact .inr (.inl h3)
      · refine .inr (.inr ⟨j, j1, j2, j3, j4, ?_⟩)
        show s < if x.getD j 0 = c then h c + 1 else h (x.getD j 0)
        split
        · rename_i e2; rw [e2] at j5; omega
        · exact j5
  · rw [gs] at e1 e2
    by_cases es : s = h c
    · rw [if_pos es] at e1
      by_cases et : t = h c
      · omega
      · rw [if_neg et] at e2
        have : j = i := by omega
        subst this
        exact absurd e2 (hno t b)
    · rw [if_neg es] at e1
      by_cases et : t = h c
      · rw [if_pos et] at e2
        have : j = i := by omega
        subst this
        exact absurd e1 (hno s a)
      · rw [if_neg et] at e2
        exact hp.inj s t a b j e1 e2
  · rw [gs] at e2
    by_cases es : s = h c
    · rw [if_pos es] at e2
      have : j = i := by omega
      subst this
      exact ⟨k, by omega, by omega, gold _ _ hv⟩
    · rw [if_neg es] at e2
      obtain ⟨t, t1, t2, t3⟩ := hp.from_ s j a b e1 e2
      exact ⟨t, by omega, t2, gold _ _ t3⟩
  · rw [gs] at e3
    by_cases et : t = h c
    · omega
    · rw [if_neg et] at e3
      rcases Nat.lt_succ_iff_lt_or_eq.1 a with a | rfl
      · obtain ⟨s, s1, s2⟩ := hp.done t j a b e1 e2 e3
        exact ⟨s, s1, gold _ _ s2⟩
      · have : j = i := by omega
        subst this
        exact ⟨h c, hsn, by rw [gs, if_pos rfl]⟩
  · rw [gs] at e6 e7
    by_cases es : s = h c
    · -- nothing of this code stands behind
      exfalso
      rw [if_pos es] at e6
      have : j = i := by omega
      subst this
      rw [if_neg (by omega)] at e7
      have w := hp.where_ hs b e7
      have := w.2.2.2.2.1 e4
      rw [← e5, hc] at this
      omega
    · rw [if_neg es] at e6
      by_cases et : t = h c
      · rw [if_pos et] at e7
        have : j' = i := by omega
        subst this
        obtain ⟨s', s1, s2, s3⟩ := hp.from_ s j (by omega) e1 e3 e6
        exact ⟨s', k, s1, hkn, gold _ _ s3, gold _ _ hv⟩
      · rw [if_neg et] at e7
        obtain ⟨s', t', s1, s2, s3, s4⟩ := hp.ord s t j j' a b e1 e2 e3 e4 e5 e6 e7
        exact ⟨s', t', s1, s2, gold _ _ s3, gold _ _ s4⟩
end Go.Proofs.Ytmmacpicbonhhaa.Ind

/- Induced sorting, plain: what the first pass leaves; the second pass. -/
namespace Go.Proofs.Ytmmacpicbonhhaa.Ind
open Go.Proofs.Ytmmacpicbonhhaa
variable {x : List Int}

/-- Where something stands. -/
def slot (o : List Int) (i : Nat) : Nat := o.idxOf (i : Int)
theorem slot_of {o : List Int} (hinj : ∀ s t, s < o.length → t < o.length → ∀ i : Nat, o.getD s (-1) = (i : Int) → o.getD t (-1) = (i : Int) → s = t) {s i : Nat} (hs : s < o.length) (h : o.getD s (-1) = (i : Int)) : slot o i = s := by
  have hm : (i : Int) ∈ o := by
    rw [← h, List.getD_eq_getElem?_getD, List.getElem?_eq_getElem hs]
    exact List.getElem_mem _
  have hl := List.idxOf_lt_length_iff.2 hm
  refine hinj _ _ hl hs i ?_ h
  show o.getD (o.idxOf (i : Int)) (-1) = (i : Int)
  rw [List.getD_eq_getElem?_getD, List.getElem?_eq_getElem hl]
  exact List.getElem_idxOf hl

theorem P1.all (ht : Tx x) {sd rk : Nat → Nat} {o0 o : List Int} {h : Int → Nat} (hs : Seeds x o0 sd rk) (hp : P1 x sd x.length o h) : ∀ d i : Nat, x.length - i ≤ d → i < x.length → (knd x i = false ∨ lms x i = true) → ∃ s, s < x.length ∧ o.getD s (-1) = (i : Int) := by
  intro d
  induction d with
  | zero => intro i hd hi; omega
  | succ d ih =>
    intro i hd hi ai
    rcases ai with ki | li
    · obtain ⟨n1, _⟩ := kndL ht hi ki
      obtain ⟨t, t1, t2⟩ := ih (i + 1) (by omega) n1 (by
        cases hk : knd x (i + 1) with
        | false => exact .inl rfl
        | true => exact .inr (next_lms ki hk))
      exact hp.done t i t1 t1 hi ki t2
    · have := (hs.at_ i hi li).2.2
      have := tl_le (x := x) (x.getD i 0)
      exact ⟨sd i, by omega, hp.keep i hi li⟩
theorem P1.slots (ht : Tx x) {sd rk : Nat → Nat} {o0 o : List Int} {h : Int → Nat} (hs : Seeds x o0 sd rk) (hp : P1 x sd x.length o h) : S1 x (slot o) rk := by
  have hinj : ∀ s t, s < o.length → t < o.length → ∀ i : Nat, o.getD s (-1) = (i : Int) → o.getD t (-1) = (i : Int) → s = t := fun s t a b => hp.inj s t (by rw [← hp.len]; exact a) (by rw [← hp.len]; exact b)
  have hall := fun i hi ai => hp.all ht hs _ i (Nat.le_refl _) hi ai
  have nxt : ∀ i, i < x.length → knd x i = false → i + 1 < x.length ∧ (knd x (i + 1) = false ∨ lms x (i + 1) = true) := fun i hi ki => by
    obtain ⟨n1, _⟩ := kndL ht hi ki
    refine ⟨n1, ?_⟩
    cases hk : knd x (i + 1) with
    | false => exact .inl rfl
    | true => exact .inr (next_lms ki hk)
  have so : ∀ {s i : Nat}, s < x.length → o.getD s (-1) = (i : Int) → slot o i = s := fun a b => slot_of hinj (by rw [hp.len]; exact a) b
  refine ⟨fun i j hi hj ai aj hc => ?_, fun i j hi hj ki lj e => ?_, fun i j hi hj li lj e => ?_, fun i j hi hj ki kj e => ?_⟩
  · obtain ⟨s, s1, s2⟩ := hall i hi ai
    obtain ⟨t, t1, t2⟩ := hall j hj aj
    rw [so s1 s2, so t1 t2]
    have w1 := hp.where_ hs s1 s2
    have w2 := hp.where_ hs t1 t2
    have := tl_hd (x := x) hc
    omega
  · obtain ⟨s, s1, s2⟩ := hall i hi (.inl ki)
    obtain ⟨t, t1, t2⟩ := hall j hj (.inr lj)
    rw [so s1 s2, so t1 t2]
    have w1 := (hp.where_ hs s1 s2).2.2.2.2.1 ki
    have w2 := (hp.where_ hs t1 t2).2.2.2.2.2 lj
    have h1 := hp.hi (x.getD i 0)
    have h2 := hd_lc (x := x) (x.getD i 0)
    rw [← e] at w2
    omega
  · have e1 := hs.at_ i hi li
    have e2 := hs.at_ j hj lj
    have := tl_le (x := x) (x.getD i 0)
    have := tl_le (x := x) (x.getD j 0)
    rw [so (by omega) (hp.keep i hi li), so (by omega) (hp.keep j hj lj)]
    exact hs.rk i j hi hj li lj e
  · obtain ⟨s, s1, s2⟩ := hall i hi (.inl ki)
    obtain ⟨t, t1, t2⟩ := hall j hj (.inl kj)
    have one : ∀ i j s t, i < x.length → j < x.length → knd x i = false → knd x j = false → x.getD i 0 = x.getD j 0 → s < x.length → t < x.length → o.getD s (-1) = (i : Int) → o.getD t (-1) = (j : Int) → s < t → slot o (i + 1) < slot o (j + 1) := fun i j s t a b c d e f g p q r => by
      obtain ⟨s', t', r1, r2, r3, r4⟩ := hp.ord s t i j r g a b c d e p q
      rw [so (by omega) r3, so r2 r4]
      exact r1
    rw [so s1 s2, so t1 t2]
    refine ⟨one i j s t hi hj ki kj e s1 t1 s2 t2, fun hlt => ?_⟩
    rcases Nat.lt_trichotomy s t with h1 | h1 | h1
    · exact h1
    · exfalso
      subst h1
      have : i = j := by omega
      subst this
      omega
    · have := one j i t s hj hi kj ki e.symm t1 s1 t2 s2 h1
      omega

/-- What stands ahead of the second pass: all Ls, and the last place. -/
def fixd (x : List Int) (i : Nat) : Prop := knd x i = false ∨ i + 1 = x.length
def sp (x : List Int) (c : Int) : Nat := cnt x fun i => decide (x.getD i 0 = c) && (knd x i && !decide (i + 1 = x.length))
theorem sp_sc (c : Int) : sp x c ≤ sc x c := cnt_le fun i _ h => by
  rw [Bool.and_eq_true, Bool.and_eq_true] at h
  rw [Bool.and_eq_true]
  exact ⟨h.1, h.2.1⟩
theorem room (c : Int) : hd x c + lc x c + sp x c ≤ tl x c := by
  have := hd_lc_sc (x := x) c
  have := sp_sc (x := x) c
  omega
structure Laid (x o : List Int) (fs : Nat → Nat) : Prop where
  len : o.length = x.length
  at_ : ∀ i, i < x.length → fixd x i → o.getD (fs i) (-1) = (i : Int) ∧ hd x (x.getD i 0) ≤ fs i ∧ fs i < tl x (x.getD i 0) - sp x (x.getD i 0)
  no : ∀ s, s < x.length → o.getD s (-1) = -1 ∨ ∃ i, i < x.length ∧ fixd x i ∧ fs i = s

structure P2 (x : List Int) (fs : Nat → Nat) (k : Nat) (o : List Int) (t : Int → Nat) : Prop where
  len : o.length = x.length
  keep : ∀ i, i < x.length → fixd x i → o.getD (fs i) (-1) = (i : Int)
  hi : ∀ c, t c ≤ tl x c
  lo : ∀ c, tl x c - sp x c ≤ t c
  full : ∀ c s, t c ≤ s → s < tl x c → ∃ i, i < x.length ∧ ¬ fixd x i ∧ x.getD i 0 = c ∧ o.getD s (-1) = (i : Int)
  what : ∀ s, s < x.length → o.getD s (-1) = -1 ∨ (∃ i, i < x.length ∧ fixd x i ∧ fs i = s ∧ o.getD s (-1) = (i : Int)) ∨ (∃ i, i < x.length ∧ ¬ fixd x i ∧ o.getD s (-1) = (i : Int) ∧ t (x.getD i 0) ≤ s ∧ s < tl x (x.getD i 0))
  inj : ∀ s t, s < x.length → t < x.length → ∀ i : Nat, o.getD s (-1) = (i : Int) → o.getD t (-1) = (i : Int) → s = t
  from_ : ∀ s i, s < x.length → i < x.length → ¬ fixd x i → o.getD s (-1) = (i : Int) → ∃ u, k ≤ u ∧ s < u ∧ u < x.length ∧ o.getD u (-1) = ((i + 1 : Nat) : Int)
  done : ∀ u i, k ≤ u → u < x.length → i < x.length → ¬ fixd x i → o.getD u (-1) = ((i + 1 : Nat) : Int) → ∃ s, s < x.length ∧ o.getD s (-1) = (i : Int)
  ord : ∀ s t i j, s < t → t < x.length → i < x.length → j < x.length → ¬ fixd x i → ¬ fixd x j → x.getD i 0 = x.getD j 0 → o.getD s (-1) = (i : Int) → o.getD t (-1) = (j : Int) →
    ∃ s' t', s' < t' ∧ t' < x.length ∧ o.getD s' (-1) = ((i + 1 : Nat) : Int) ∧ o.getD t' (-1) = ((j + 1 : Nat) : Int)

theorem P2.start {o : List Int} {fs : Nat → Nat} (hs : Laid x o fs) : P2 x fs x.length o (tl x) := by
  have none : ∀ s i, s < x.length → i < x.length → ¬ fixd x i → ¬ o.getD s (-1) = (i : Int) := by
    intro s i h1 h2 h3 h4
    rcases hs.no s h1 with h | ⟨j, hj, hl, rfl⟩
    · omega
    · have := (hs.at_ j hj hl).1
      have e : i = j := by omega
      subst e
      exact h3 hl
  refine ⟨hs.len, fun i h1 h2 => (hs.at_ i h1 h2).1, fun c => Nat.le_refl _, fun c => Nat.sub_le _ _, fun c s h1 h2 => by omega, fun s h1 => ?_, fun s t h1 h2 i h3 h4 => ?_, fun s i h1 h2 h3 h4 => absurd h4 (none s i h1 h2 h3), fun t i h1 h2 => by omega, fun s t i j h1 h2 h3 h4 h5 h6 _ h7 _ => absurd h7 (none s i (by omega) h3 h5)⟩
  · rcases hs.no s h1 with h | ⟨j, hj, hl, rfl⟩
    · exact .inl h
    · exact .inr (.inl ⟨j, hj, hl, rfl, (hs.at_ j hj hl).1⟩)
  · rcases hs.no s h1 with h | ⟨j, hj, hl, rfl⟩
    · omega
    · rcases hs.no t h2 with h | ⟨j', hj', hl', rfl⟩
      · omega
      · have e1 := (hs.at_ j hj hl).1
        have e2 := (hs.at_ j' hj' hl').1
        have : j = j' := by omega
        rw [this]

theorem P2.where_ {fs : Nat → Nat} {o0 o : List Int} {t : Int → Nat} {k : Nat} (hs : Laid x o0 fs) (hp : P2 x fs k o t) {s i : Nat} (h1 : s < x.length) (h2 : o.getD s (-1) = (i : Int)) :
    i < x.length ∧ hd x (x.getD i 0) ≤ s ∧ s < tl x (x.getD i 0) ∧ (¬ fixd x i → t (x.getD i 0) ≤ s) ∧ (fixd x i → s < tl x (x.getD i 0) - sp x (x.getD i 0) ∧ s = fs i) := by
  rcases hp.what s h1 with h3 | ⟨j, hj, hl, rfl, h4⟩ | ⟨j, hj, hk, h4, h5, h6⟩
  · omega
  · have e : i = j := by omega
    subst e
    have h5 := (hs.at_ i hj hl).2
    exact ⟨hj, h5.1, by omega, fun hk => absurd hl hk, fun _ => ⟨h5.2, rfl⟩⟩
  · have e : i = j := by omega
    subst e
    have h7 := hp.lo (x.getD i 0)
    have h8 := room (x := x) (x.getD i 0)
    exact ⟨hj, by omega, h6, fun _ => h5, fun hl => absurd hl hk⟩

theorem P2.skip {fs : Nat → Nat} {o : List Int} {t : Int → Nat} {k : Nat} (hp : P2 x fs (k + 1) o t) (hk : ∀ i : Nat, i < x.length → ¬ fixd x i → ¬ o.getD k (-1) = ((i + 1 : Nat) : Int)) : P2 x fs k o t :=
  ⟨hp.len, hp.keep, hp.hi, hp.lo, hp.full, hp.what, hp.inj, fun s i a b c d => by
    obtain ⟨u, u1, u2⟩ := hp.from_ s i a b c d
    exact ⟨u, by omega, u2⟩, fun u i a b c d e => by
    rcases Nat.lt_or_ge k u with h | h
    · exact hp.done u i h b c d e
    · have : u = k := by omega
      subst this
      exact absurd e (hk i c d), hp.ord⟩

/-- An S is put ahead of its bucket's Ss. -/
theorem P2.put (ht : Tx x) {fs : Nat → Nat} {o0 o : List Int} {t : Int → Nat} {k i : Nat} (hs : Laid x o0 fs) (hp : P2 x fs (k + 1) o t) (hkn : k < x.length) (hi : i < x.length) (hS : ¬ fixd x i) (hv : o.getD k (-1) = ((i + 1 : Nat) : Int)) :
    0 < t (x.getD i 0) ∧ t (x.getD i 0) - 1 < k ∧ o.getD (t (x.getD i 0) - 1) (-1) = -1 ∧ P2 x fs k (o.set (t (x.getD i 0) - 1) (i : Int)) (fun c => if c = x.getD i 0 then t (x.getD i 0) - 1 else t c) := by
  have hno : ∀ s, s < x.length → ¬ o.getD s (-1) = (i : Int) := fun s a b => by
    obtain ⟨u, u1, u2, u3, u4⟩ := hp.from_ s i a hi hS b
    have := hp.inj u k u3 hkn (i + 1) u4 hv
    omega
  have hkS : knd x i = true := by
    cases h : knd x i with
    | true => rfl
    | false => exact absurd (.inl h) hS
  have hil : ¬ i + 1 = x.length := fun e => hS (.inr e)
  generalize hc : x.getD i 0 = c at *
  have hroom : tl x c - sp x c < t c := by
    have hle := hp.lo c
    refine Classical.byContradiction fun hn => ?_
    have he : t c = tl x c - sp x c := by omega
    let f : Nat → Nat := fun s => (o.getD s (-1)).toNat
    have hf : ∀ s, t c ≤ s → s < tl x c → ∃ j, j < x.length ∧ ¬ fixd x j ∧ x.getD j 0 = c ∧ o.getD s (-1) = (j : Int) ∧ f s = j := fun s a b => by
      obtain ⟨j, j1, j2, j3, j4⟩ := hp.full c s a b
      exact ⟨j, j1, j2, j3, j4, by show (o.getD s (-1)).toNat = j; rw [j4]; rfl⟩
    have htl := room (x := x) c
    have htn := tl_le (x := x) c
    have hnd : ((List.range' (t c) (sp x c)).map f).Nodup := by
      rw [List.nodup_iff_pairwise_ne, List.pairwise_map]
      refine (List.nodup_iff_pairwise_ne.1 (List.nodup_range' (s := t c) (n := sp x c))).imp_of_mem fun {a b} ha hb hne e => hne ?_
      rw [List.mem_range'_1] at ha hb
      obtain ⟨j, _, _, _, j4, j5⟩ := hf a (by omega) (by omega)
      obtain ⟨j', _, _, _, j4', j5'⟩ := hf b (by omega) (by omega)
      have : j = j' := by rw [← j5, ← j5']; exact e
      subst this
      exact hp.inj a b (by omega) (by omega) j j4 j4'
    have mem : ∀ j, j < x.length → ¬ fixd x j → x.getD j 0 = c → j ∈ (List.range x.length).filter (fun i => decide (x.getD i 0 = c) && (knd x i && !decide (i + 1 = x.length))) := fun j a b d => by
      have k1 : knd x j = true := by
        cases h : knd x j with
        | true => rfl
        | false => exact absurd (.inl h) b
      have k2 : ¬ j + 1 = x.length := fun e => b (.inr e)
      rw [List.mem_filter, List.mem_range, d, k1]
      simp [a, k2]
    have hsub : ∀ y ∈ i :: (List.range' (t c) (sp x c)).map f, y ∈ (List.range x.length).filter (fun i => decide (x.getD i 0 = c) && (knd x i && !decide (i + 1 = x.length))) := fun y hy => by
      rw [List.mem_cons] at hy
      rcases hy with rfl | hy
      · exact mem _ hi hS hc
      · obtain ⟨s, hs1, rfl⟩ := List.mem_map.1 hy
        rw [List.mem_range'_1] at hs1
        obtain ⟨j, j1, j2, j3, j4, j5⟩ := hf s (by omega) (by omega)
        rw [j5]
        exact mem j j1 j2 j3
    have hnd2 : (i :: (List.range' (t c) (sp x c)).map f).Nodup := List.nodup_cons.2 ⟨fun hm => by
      obtain ⟨s, hs1, e⟩ := List.mem_map.1 hm
      rw [List.mem_range'_1] at hs1
      obtain ⟨j, j1, j2, j3, j4, j5⟩ := hf s (by omega) (by omega)
      have : j = i := by rw [← j5]; exact e
      subst this
      exact hno s (by omega) j4, hnd⟩
    have := pigeonN _ _ hnd2 hsub
    rw [List.length_cons, List.length_map, List.length_range'] at this
    have e : ((List.range x.length).filter (fun i => decide (x.getD i 0 = c) && (knd x i && !decide (i + 1 = x.length)))).length = sp x c := rfl
    omega
  have hhi := hp.hi c
  have htl := room (x := x) c
  have htn := tl_le (x := x) c
  have hsn : t c - 1 < x.length := by omega
  have hempty : o.getD (t c - 1) (-1) = -1 := by
    rcases hp.what (t c - 1) hsn with h3 | ⟨j, hj, hl, e, h4⟩ | ⟨j, hj, hk, h4, h5, h6⟩
    · exact h3
    · have w := hp.where_ hs hsn h4
      have e1 := one_bucket (x := x) (c := c) (d := x.getD j 0) (s := t c - 1) (by omega) (by omega) w.2.1 w.2.2.1
      have e2 := (w.2.2.2.2 hl).1
      rw [← e1] at e2
      omega
    · have w := hp.where_ hs hsn h4
      have e1 := one_bucket (x := x) (c := c) (d := x.getD j 0) (s := t c - 1) (by omega) (by omega) w.2.1 w.2.2.1
      rw [← e1] at h5
      omega
  have n1 : i + 1 < x.length := by omega
  have n2 := kndS ht n1 hkS
  have hk : t c - 1 < k := by
    have w := hp.where_ hs hkn hv
    rcases n2 with n2 | n2
    · have := tl_hd (x := x) (c := c) (d := x.getD (i + 1) 0) (by omega)
      omega
    · have hf1 : ¬ fixd x (i + 1) := fun hf => by
        rcases hf with hf | hf
        · rw [n2.2] at hf; cases hf
        · have := s_far ht n1 hkS; omega
      have := w.2.2.2.1 hf1
      rw [n2.1, hc] at this
      omega
  refine ⟨by omega, hk, hempty, ?_⟩
  have hol : t c - 1 < o.length := by rw [hp.len]; exact hsn
  have gs : ∀ s, (o.set (t c - 1) (i : Int)).getD s (-1) = if s = t c - 1 then (i : Int) else o.getD s (-1) := fun s => getD_set o (t c - 1) s i hol
  have gold : ∀ s (j : Nat), o.getD s (-1) = (j : Int) → (o.set (t c - 1) (i : Int)).getD s (-1) = (j : Int) := fun s j e => by
    rw [gs, if_neg (fun e2 => by subst e2; omega)]
    exact e
  refine ⟨by rw [List.length_set]; exact hp.len, fun j a b => gold _ _ (hp.keep j a b), fun d => ?_, fun d => ?_, fun d s a b => ?_, fun s a => ?_, fun s u a b j e1 e2 => ?_, fun s j a b e1 e2 => ?_, fun u j a b e1 e2 e3 => ?_, fun s u j j' a b e1 e2 e3 e4 e5 e6 e7 => ?_⟩
  · have := hp.hi d
    show (if d = c then t c - 1 else t d) ≤ _
    split
    · rename_i e; subst e; omega
    · exact this
  · have := hp.lo d
    show _ ≤ if d = c then t c - 1 else t d
    split
    · rename_i e; subst e; omega
    · exact this
  · have a : (if d = c then t c - 1 else t d) ≤ s := a
    by_cases e : s = t c - 1 ∧ d = c
    · obtain ⟨rfl, rfl⟩ := e
      exact ⟨i, hi, hS, hc, by rw [gs, if_pos rfl]⟩
    · have b2 : t d ≤ s := by
        split at a
        · rename_i e2; subst e2
          have : ¬ s = t d - 1 := fun e3 => e ⟨e3, rfl⟩
          omega
        · exact a
      obtain ⟨j, j1, j2, j3, j4⟩ := hp.full d s b2 b
      exact ⟨j, j1, j2, j3, gold _ _ j4⟩
  · rw [gs]
    by_cases e : s = t c - 1
    · rw [if_pos e]
      refine .inr (.inr ⟨i, hi, hS, rfl, ?_, by rw [hc]; omega⟩)
      show (if x.getD i 0 = c then t c - 1 else t (x.getD i 0)) ≤ s
      rw [if_pos hc]
      omega
    · rw [if_neg e]
      rcases hp.what s a with h3 | h3 | ⟨j, j1, j2, j3, j4, j5⟩
      · exact .inl h3
      · exact .inr (.inl h3)
      · refine .inr (.inr ⟨j, j1, j2, j3, ?_, j5⟩)
        show (if x.getD j 0 = c then t c - 1 else t (x.getD j 0)) ≤ s
        split
        · rename_i e2; rw [e2] at j4; omega
        · exact j4
  · rw [gs] at e1 e2
    by_cases es : s = t c - 1
    · rw [if_pos es] at e1
      by_cases et : u = t c - 1
      · omega
      · rw [if_neg et] at e2
        have : j = i := by omega
        subst this
        exact absurd e2 (hno u b)
    · rw [if_neg es] at e1
      by_cases et : u = t c - 1
      · rw [if_pos et] at e2
        have : j = i := by omega
        subst this
        exact absurd e1 (hno s a)
      · rw [if_neg et] at e2
        exact hp.inj s u a b j e1 e2
  · rw [gs] at e2
    by_cases es : s = t c - 1
    · rw [if_pos es] at e2
      have : j = i := by omega
      subst this
      exact ⟨k, Nat.le_refl _, by omega, hkn, gold _ _ hv⟩
    · rw [if_neg es] at e2
      obtain ⟨u, u1, u2, u3, u4⟩ := hp.from_ s j a b e1 e2
      exact ⟨u, by omega, u2, u3, gold _ _ u4⟩
  · rw [gs] at e3
    by_cases et : u = t c - 1
    · omega
    · rw [if_neg et] at e3
      rcases Nat.lt_or_ge k u with h | h
      · obtain ⟨s, s1, s2⟩ := hp.done u j h b e1 e2 e3
        exact ⟨s, s1, gold _ _ s2⟩
      · have hu : u = k := by omega
        subst hu
        have : j = i := by omega
        subst this
        exact ⟨t c - 1, hsn, by rw [gs, if_pos rfl]⟩
  · rw [gs] at e6 e7
    by_cases et : u = t c - 1
    · -- nothing of this code stands ahead
      exfalso
      rw [if_pos et] at e7
      have : j' = i := by omega
      subst this
      rw [if_neg (by omega)] at e6
      have w := hp.where_ hs (show s < x.length by omega) e6
      have := w.2.2.2.1 e3
      rw [e5, hc] at this
      omega
    · rw [if_neg et] at e7
      by_cases es : s = t c - 1
      · rw [if_pos es] at e6
        have : j = i := by omega
        subst this
        obtain ⟨u', u1, u2, u3, u4⟩ := hp.from_ u j' b e2 e4 e7
        exact ⟨k, u', by omega, u3, gold _ _ hv, gold _ _ u4⟩
      · rw [if_neg es] at e6
        obtain ⟨s', t', s1, s2, s3, s4⟩ := hp.ord s u j j' a b e1 e2 e3 e4 e5 e6 e7
        exact ⟨s', t', s1, s2, gold _ _ s3, gold _ _ s4⟩

theorem P2.all {fs : Nat → Nat} {o0 o : List Int} {t : Int → Nat} (hs : Laid x o0 fs) (hp : P2 x fs 0 o t) : ∀ d i : Nat, x.length - i ≤ d → i < x.length → ∃ s, s < x.length ∧ o.getD s (-1) = (i : Int) := by
  intro d
  induction d with
  | zero => intro i hd hi; omega
  | succ d ih =>
    intro i hd hi
    by_cases hf : fixd x i
    · have := (hs.at_ i hi hf).2.2
      have := tl_le (x := x) (x.getD i 0)
      exact ⟨fs i, by omega, hp.keep i hi hf⟩
    · have n1 : i + 1 < x.length := Classical.byContradiction fun hn => hf (.inr (by omega))
      obtain ⟨u, u1, u2⟩ := ih (i + 1) (by omega) n1
      exact hp.done u i (Nat.zero_le _) u1 hi hf u2
theorem P2.slots (ht : Tx x) {fs s1 : Nat → Nat} {o0 o : List Int} {t : Int → Nat} (hs : Laid x o0 fs) (hp : P2 x fs 0 o t) (hfs : ∀ i, i < x.length → knd x i = false → fs i = s1 i) : S2 x s1 (slot o) := by
  have hinj : ∀ s t, s < o.length → t < o.length → ∀ i : Nat, o.getD s (-1) = (i : Int) → o.getD t (-1) = (i : Int) → s = t := fun s t a b => hp.inj s t (by rw [← hp.len]; exact a) (by rw [← hp.len]; exact b)
  have hall := fun i hi => hp.all hs _ i (Nat.le_refl _) hi
  have so : ∀ {s i : Nat}, s < x.length → o.getD s (-1) = (i : Int) → slot o i = s := fun a b => slot_of hinj (by rw [hp.len]; exact a) b
  refine ⟨fun i j hi hj hc => ?_, fun i j hi hj ki kj e => ?_, fun i j hi hj ki kj _ => ?_, fun i j hi hj ki kj e => ?_⟩
  · obtain ⟨s, s1, s2⟩ := hall i hi
    obtain ⟨t, t1, t2⟩ := hall j hj
    rw [so s1 s2, so t1 t2]
    have w1 := hp.where_ hs s1 s2
    have w2 := hp.where_ hs t1 t2
    have := tl_hd (x := x) hc
    omega
  · obtain ⟨s, s1, s2⟩ := hall i hi
    obtain ⟨u, t1, t2⟩ := hall j hj
    rw [so s1 s2, so t1 t2]
    have hnj : ¬ fixd x j := fun hf => by
      rcases hf with hf | hf
      · rw [kj] at hf; cases hf
      · have e1 := ht.last
        rw [show x.length - 1 = j by omega] at e1
        have := ht.mid i (kndL ht hi ki).1
        omega
    have w1 := ((hp.where_ hs s1 s2).2.2.2.2 (.inl ki)).1
    have w2 := (hp.where_ hs t1 t2).2.2.2.1 hnj
    have h1 := hp.lo (x.getD j 0)
    rw [e] at w1
    omega
  · obtain ⟨s, s1, s2⟩ := hall i hi
    obtain ⟨u, t1, t2⟩ := hall j hj
    rw [so s1 s2, so t1 t2, ((hp.where_ hs s1 s2).2.2.2.2 (.inl ki)).2, ((hp.where_ hs t1 t2).2.2.2.2 (.inl kj)).2, hfs i hi ki, hfs j hj kj]
  · have fi : ∀ i, i + 1 < x.length → knd x i = true → ¬ fixd x i := fun i a b hf => by
      rcases hf with hf | hf
      · rw [b] at hf; cases hf
      · omega
    obtain ⟨s, s1, s2⟩ := hall i (by omega)
    obtain ⟨u, t1, t2⟩ := hall j (by omega)
    have one : ∀ i j s t, i < x.length → j < x.length → ¬ fixd x i → ¬ fixd x j → x.getD i 0 = x.getD j 0 → s < x.length → t < x.length → o.getD s (-1) = (i : Int) → o.getD t (-1) = (j : Int) → s < t → slot o (i + 1) < slot o (j + 1) := fun i j s t a b c d e f g p q r => by
      obtain ⟨s', t', r1, r2, r3, r4⟩ := hp.ord s t i j r g a b c d e p q
      rw [so (by omega) r3, so r2 r4]
      exact r1
    rw [so s1 s2, so t1 t2]
    refine ⟨one i j s u (by omega) (by omega) (fi i hi ki) (fi j hj kj) e s1 t1 s2 t2, fun hlt => ?_⟩
    rcases Nat.lt_trichotomy s u with h1 | h1 | h1
    · exact h1
    · exfalso
      subst h1
      have : i = j := by omega
      subst this
      omega
    · have := one j i u s (by omega) (by omega) (fi j hj kj) (fi i hi ki) e.symm t1 s1 t2 s2 h1
      omega
end Go.Proofs.Ytmmacpicbonhhaa.Ind

/- Induced sorting, plain: the whole: sown, larger, cleared, smaller. -/
namespace Go.Proofs.Ytmmacpicbonhhaa.Ind
open Go.Proofs.Ytmmacpicbonhhaa
variable {x : List Int}

def upd (t : Int → Nat) (c : Int) (v : Nat) : Int → Nat := fun d => if d = c then v else t d
/-- One first S is put ahead of its bucket's. -/
def sowS (x : List Int) (st : List Int × (Int → Nat)) (i : Nat) : List Int × (Int → Nat) := (st.1.set (st.2 (x.getD i 0) - 1) (i : Int), upd st.2 (x.getD i 0) (st.2 (x.getD i 0) - 1))
/-- The last one first. -/
def sowN (x : List Int) : List Nat → List Int × (Int → Nat)
  | [] => (List.replicate x.length (-1), tl x)
  | i :: r => sowS x (sowN x r) i

structure Sow (x : List Int) (suf : List Nat) (o : List Int) (t : Int → Nat) : Prop where
  len : o.length = x.length
  cnt : ∀ c, t c + (suf.filter fun i => decide (x.getD i 0 = c)).length = tl x c
  what : ∀ s, s < x.length → o.getD s (-1) = -1 ∨ ∃ q, q ∈ suf ∧ o.getD s (-1) = (q : Int) ∧ t (x.getD q 0) ≤ s ∧ s < tl x (x.getD q 0)
  has : ∀ q, q ∈ suf → ∃ s, s < x.length ∧ o.getD s (-1) = (q : Int)
  inj : ∀ s t, s < x.length → t < x.length → ∀ i : Nat, o.getD s (-1) = (i : Int) → o.getD t (-1) = (i : Int) → s = t
  ord : suf.Pairwise fun q q' => x.getD q 0 = x.getD q' 0 → ∀ s s', s < x.length → s' < x.length → o.getD s (-1) = (q : Int) → o.getD s' (-1) = (q' : Int) → s < s'

theorem few {suf : List Nat} (hn : suf.Nodup) (hm : ∀ i ∈ suf, i < x.length ∧ lms x i = true) (c : Int) : (suf.filter fun i => decide (x.getD i 0 = c)).length ≤ fc x c := by
  unfold fc cnt
  refine pigeonN _ _ (hn.filter _) fun y hy => ?_
  rw [List.mem_filter] at hy
  rw [List.mem_filter, List.mem_range, (hm y hy.1).2, hy.2]
  exact ⟨(hm y hy.1).1, rfl⟩
theorem rep_get (n s : Nat) : (List.replicate n (-1 : Int)).getD s (-1) = -1 := by
  rw [List.getD_eq_getElem?_getD, List.getElem?_replicate]
  split <;> rfl
theorem sow_all : ∀ suf : List Nat, suf.Nodup → (∀ i ∈ suf, i < x.length ∧ lms x i = true) → Sow x suf (sowN x suf).1 (sowN x suf).2
  | [], _, _ => ⟨by simp [sowN], fun c => by simp [sowN], fun s _ => .inl (rep_get _ s), fun q h => absurd h (by simp), fun s t _ _ i e _ => by rw [show (sowN x []).1 = List.replicate x.length (-1) from rfl, rep_get] at e; omega, List.Pairwise.nil⟩
  | i :: r, hn, hm => by
    obtain ⟨hn1, hn2⟩ := List.nodup_cons.1 hn
    have hp := sow_all r hn2 fun j hj => hm j (by simp [hj])
    have hfew := few hn hm (x.getD i 0)
    have hcn := hp.cnt (x.getD i 0)
    have hmi := hm i (by simp)
    show Sow x (i :: r) ((sowN x r).1.set ((sowN x r).2 (x.getD i 0) - 1) (i : Int)) (upd (sowN x r).2 (x.getD i 0) ((sowN x r).2 (x.getD i 0) - 1))
    generalize (sowN x r).1 = o at *
    generalize (sowN x r).2 = t at *
    rw [List.filter_cons, if_pos (by simp), List.length_cons] at hfew
    generalize hc : x.getD i 0 = c at *
    have htl := hd_lc (x := x) c
    have htn := tl_le (x := x) c
    have hsn : t c - 1 < x.length := by omega
    have hol : t c - 1 < o.length := by rw [hp.len]; exact hsn
    have gs : ∀ s, (o.set (t c - 1) (i : Int)).getD s (-1) = if s = t c - 1 then (i : Int) else o.getD s (-1) := fun s => getD_set o (t c - 1) s i hol
    have hempty : o.getD (t c - 1) (-1) = -1 := by
      rcases hp.what (t c - 1) hsn with h | ⟨q, q1, q2, q3, q4⟩
      · exact h
      · exfalso
        have hq := hp.cnt (x.getD q 0)
        have hqf := few hn2 (fun j hj => hm j (by simp [hj])) (x.getD q 0)
        have hqd := hd_lc (x := x) (x.getD q 0)
        have e1 := one_bucket (x := x) (c := c) (d := x.getD q 0) (s := t c - 1) (by omega) (by omega) (by omega) q4
        rw [← e1] at q3
        omega
    have hno : ∀ s, s < x.length → ¬ o.getD s (-1) = (i : Int) := fun s a b => by
      rcases hp.what s a with h | ⟨q, q1, q2, _⟩
      · omega
      · have : i = q := by omega
        exact hn1 (this ▸ q1)
    have gold : ∀ s (j : Nat), o.getD s (-1) = (j : Int) → (o.set (t c - 1) (i : Int)).getD s (-1) = (j : Int) := fun s j e => by
      rw [gs, if_neg (fun e2 => by subst e2; omega)]
      exact e
    have gback : ∀ s (j : Nat), j ≠ i → (o.set (t c - 1) (i : Int)).getD s (-1) = (j : Int) → o.getD s (-1) = (j : Int) := fun s j hne e => by
      rw [gs] at e
      split at e
      · omega
      · exact e
    refine ⟨by rw [List.length_set]; exact hp.len, fun d => ?_, fun s a => ?_, fun q hq => ?_, fun s u a b j e1 e2 => ?_, List.pairwise_cons.2 ⟨fun q hq e s s' a b e1 e2 => ?_, ?_⟩⟩
    · have := hp.cnt d
      unfold upd
      rw [List.filter_cons]
      by_cases e : d = c
      · subst e
        rw [if_pos rfl, if_pos (by rw [hc]; simp), List.length_cons]
        omega
      · rw [if_neg e, if_neg (by rw [hc, decide_eq_true_iff]; exact fun h => e h.symm)]
        exact this
    · rw [gs]
      by_cases e : s = t c - 1
      · rw [if_pos e]
        refine .inr ⟨i, by simp, rfl, ?_, ?_⟩
        · unfold upd; rw [if_pos hc]; omega
        · rw [hc]; omega
      · rw [if_neg e]
        rcases hp.what s a with h | ⟨q, q1, q2, q3, q4⟩
        · exact .inl h
        · refine .inr ⟨q, by simp [q1], q2, ?_, q4⟩
          unfold upd
          split
          · rename_i e2; rw [e2] at q3; omega
          · exact q3
    · rw [List.mem_cons] at hq
      rcases hq with rfl | hq
      · exact ⟨t c - 1, hsn, by rw [gs, if_pos rfl]⟩
      · obtain ⟨s, s1, s2⟩ := hp.has q hq
        exact ⟨s, s1, gold _ _ s2⟩
    · by_cases hj : j = i
      · subst hj
        rw [gs] at e1 e2
        by_cases es : s = t c - 1
        · by_cases eu : u = t c - 1
          · omega
          · rw [if_neg eu] at e2; exact absurd e2 (hno u b)
        · rw [if_neg es] at e1; exact absurd e1 (hno s a)
      · exact hp.inj s u a b j (gback _ _ hj e1) (gback _ _ hj e2)
    · have hqi : q ≠ i := fun e3 => hn1 (e3 ▸ hq)
      have e2 := gback _ _ hqi e2
      rw [gs] at e1
      have es : s = t c - 1 := Classical.byContradiction fun hne => by
        rw [if_neg hne] at e1
        exact hno s a e1
      rcases hp.what s' b with h | ⟨q', q1, q2, q3, q4⟩
      · omega
      · have : q = q' := by omega
        subst this
        rw [hc] at e
        rw [← e] at q3
        omega
    · refine hp.ord.imp_of_mem fun {q q'} hq hq' hpq e s s' a b e1 e2 => ?_
      exact hpq e s s' a b (gback _ _ (fun e3 => hn1 (e3 ▸ hq)) e1) (gback _ _ (fun e3 => hn1 (e3 ▸ hq')) e2)

theorem idx_pair {l : List Nat} {r : Nat → Nat → Prop} (h : l.Pairwise r) {a b : Nat} (ha : a ∈ l) (hb : b ∈ l) (hlt : l.idxOf a < l.idxOf b) : r a b := by
  have h1 := List.idxOf_lt_length_iff.2 ha
  have h2 := List.idxOf_lt_length_iff.2 hb
  have := List.pairwise_iff_getElem.1 h _ _ h1 h2 hlt
  rwa [List.getElem_idxOf h1, List.getElem_idxOf h2] at this
theorem sow_seeds {firsts : List Nat} (hn : firsts.Nodup) (hm : ∀ i, i ∈ firsts ↔ i < x.length ∧ lms x i = true) : Seeds x (sowN x firsts).1 (slot (sowN x firsts).1) (fun i => firsts.idxOf i) := by
  have hp := sow_all firsts hn fun i hi => (hm i).1 hi
  have hcnt := fun c => few hn (fun i hi => (hm i).1 hi) c
  generalize (sowN x firsts).1 = o at *
  generalize (sowN x firsts).2 = t at *
  have hinj : ∀ s t, s < o.length → t < o.length → ∀ i : Nat, o.getD s (-1) = (i : Int) → o.getD t (-1) = (i : Int) → s = t := fun s t a b => hp.inj s t (by rw [← hp.len]; exact a) (by rw [← hp.len]; exact b)
  have so : ∀ {s i : Nat}, s < x.length → o.getD s (-1) = (i : Int) → slot o i = s := fun a b => slot_of hinj (by rw [hp.len]; exact a) b
  have wh : ∀ s i : Nat, s < x.length → o.getD s (-1) = (i : Int) → tl x (x.getD i 0) - fc x (x.getD i 0) ≤ s ∧ s < tl x (x.getD i 0) := fun s i a b => by
    rcases hp.what s a with h | ⟨q, q1, q2, q3, q4⟩
    · omega
    · have : i = q := by omega
      subst this
      have := hp.cnt (x.getD i 0)
      have := hcnt (x.getD i 0)
      omega
  refine ⟨hp.len, fun i hi hl => ?_, fun s hs => ?_, fun i j hi hj li lj e => ?_⟩
  · obtain ⟨s, s1, s2⟩ := hp.has i ((hm i).2 ⟨hi, hl⟩)
    rw [so s1 s2]
    exact ⟨s2, wh s i s1 s2⟩
  · rcases hp.what s hs with h | ⟨q, q1, q2, q3, q4⟩
    · exact .inl h
    · have hq := (hm q).1 q1
      exact .inr ⟨q, hq.1, hq.2, so hs q2⟩
  · have mi := (hm i).2 ⟨hi, li⟩
    have mj := (hm j).2 ⟨hj, lj⟩
    obtain ⟨s, s1, s2⟩ := hp.has i mi
    obtain ⟨u, u1, u2⟩ := hp.has j mj
    rw [so s1 s2, so u1 u2]
    constructor
    · intro hlt
      rcases Nat.lt_trichotomy (firsts.idxOf i) (firsts.idxOf j) with h | h | h
      · exact h
      · exfalso
        have h1 := List.idxOf_lt_length_iff.2 mi
        have h2 := List.idxOf_lt_length_iff.2 mj
        have e1 := List.getElem_idxOf h1
        have e2 := List.getElem_idxOf h2
        have : i = j := by
          rw [← e1, ← e2]
          congr 1
        subst this
        have := hp.inj s u s1 u1 i s2 u2
        omega
      · have := idx_pair hp.ord mj mi h e.symm u s u1 s1 u2 s2
        omega
    · intro hlt
      exact idx_pair hp.ord mi mj hlt e s u s1 u1 s2 u2

/-- The first pass. -/
def lgS (x : List Int) (st : List Int × (Int → Nat)) (k : Nat) : List Int × (Int → Nat) :=
  if st.1.getD k (-1) - 1 < 0 then st else if knd x (st.1.getD k (-1) - 1).toNat = true then st
  else (st.1.set (st.2 (x.getD (st.1.getD k (-1) - 1).toNat 0)) (st.1.getD k (-1) - 1), upd st.2 (x.getD (st.1.getD k (-1) - 1).toNat 0) (st.2 (x.getD (st.1.getD k (-1) - 1).toNat 0) + 1))
def lgN (x : List Int) (o : List Int) : Nat → List Int × (Int → Nat)
  | 0 => (o, hd x)
  | k + 1 => lgS x (lgN x o k) k
theorem lg_all (ht : Tx x) {sd rk : Nat → Nat} {o : List Int} (hs : Seeds x o sd rk) : ∀ k, k ≤ x.length → P1 x sd k (lgN x o k).1 (lgN x o k).2 := by
  intro k
  induction k with
  | zero => intro _; exact P1.start hs
  | succ k ih =>
    intro hk
    have hp := ih (by omega)
    show P1 x sd (k + 1) (lgS x (lgN x o k) k).1 (lgS x (lgN x o k) k).2
    generalize lgN x o k = st at *
    obtain ⟨o1, h⟩ := st
    have hp : P1 x sd k o1 h := hp
    unfold lgS
    show P1 x sd (k + 1) (if o1.getD k (-1) - 1 < 0 then (o1, h) else _).1 (if o1.getD k (-1) - 1 < 0 then (o1, h) else _).2
    by_cases c1 : o1.getD k (-1) - 1 < 0
    · rw [if_pos c1]
      exact hp.skip fun i _ _ e => by omega
    · rw [if_neg c1]
      obtain ⟨i, hi⟩ := Int.eq_ofNat_of_zero_le (show 0 ≤ o1.getD k (-1) - 1 by omega)
      have hv : o1.getD k (-1) = ((i + 1 : Nat) : Int) := by omega
      have w := hp.where_ hs (show k < x.length by omega) hv
      show P1 x sd (k + 1) (if knd x (o1.getD k (-1) - 1).toNat = true then (o1, h) else _).1 (if knd x (o1.getD k (-1) - 1).toNat = true then (o1, h) else _).2
      rw [show (o1.getD k (-1) - 1).toNat = i by omega, hi]
      by_cases c2 : knd x i = true
      · rw [if_pos c2]
        exact hp.skip fun j _ hj e => by
          have : i = j := by omega
          subst this
          rw [c2] at hj
          cases hj
      · rw [if_neg c2]
        exact (hp.put ht hs (by omega) (by omega) (by simpa using c2) hv).2.2.2

def clr (x : List Int) (o : List Int) : List Int := o.map fun v => if v ≠ -1 ∧ v ≠ ((x.length - 1 : Nat) : Int) ∧ knd x v.toNat = true then -1 else v
theorem clr_get (o : List Int) (s : Nat) : (clr x o).getD s (-1) = if o.getD s (-1) ≠ -1 ∧ o.getD s (-1) ≠ ((x.length - 1 : Nat) : Int) ∧ knd x (o.getD s (-1)).toNat = true then -1 else o.getD s (-1) := by
  unfold clr
  rw [List.getD_eq_getElem?_getD, List.getD_eq_getElem?_getD, List.getElem?_map]
  cases o[s]? with
  | none => simp
  | some v => rfl
theorem clr_laid (ht : Tx x) (h2 : 2 ≤ x.length) {sd rk : Nat → Nat} {o0 o : List Int} {h : Int → Nat} (hs : Seeds x o0 sd rk) (hp : P1 x sd x.length o h) : Laid x (clr x o) (slot o) := by
  have hinj : ∀ s t, s < o.length → t < o.length → ∀ i : Nat, o.getD s (-1) = (i : Int) → o.getD t (-1) = (i : Int) → s = t := fun s t a b => hp.inj s t (by rw [← hp.len]; exact a) (by rw [← hp.len]; exact b)
  have so : ∀ {s i : Nat}, s < x.length → o.getD s (-1) = (i : Int) → slot o i = s := fun a b => slot_of hinj (by rw [hp.len]; exact a) b
  have ll : lms x (x.length - 1) = true := by
    refine lms_iff.2 ⟨by omega, knd_last ht, ?_⟩
    cases hk : knd x (x.length - 1 - 1) with
    | false => rfl
    | true => have := s_far ht (show x.length - 1 - 1 + 1 < x.length by omega) hk; omega
  have ai : ∀ i, i < x.length → fixd x i → knd x i = false ∨ lms x i = true := fun i hi hf => by
    rcases hf with hf | hf
    · exact .inl hf
    · rw [show i = x.length - 1 by omega]; exact .inr ll
  have keepv : ∀ (v : Int) (i : Nat), v = (i : Int) → i < x.length → fixd x i → ¬ (v ≠ -1 ∧ v ≠ ((x.length - 1 : Nat) : Int) ∧ knd x v.toNat = true) := fun v i e hi hf hh => by
    subst e
    rcases hf with hf | hf
    · have := hh.2.2
      rw [Int.toNat_natCast, hf] at this
      cases this
    · exact hh.2.1 (by omega)
  refine ⟨by unfold clr; rw [List.length_map]; exact hp.len, fun i hi hf => ?_, fun s hs1 => ?_⟩
  · obtain ⟨s, s1, s2⟩ := hp.all ht hs _ i (Nat.le_refl _) hi (ai i hi hf)
    rw [so s1 s2, clr_get, if_neg (keepv _ i s2 hi hf)]
    have w := hp.where_ hs s1 s2
    refine ⟨s2, w.2.2.1, ?_⟩
    rcases hf with hf | hf
    · have := w.2.2.2.2.1 hf
      have := hp.hi (x.getD i 0)
      have := room (x := x) (x.getD i 0)
      omega
    · have h0 : x.getD i 0 = 0 := by rw [show i = x.length - 1 by omega]; exact ht.last
      have hsp : sp x 0 = 0 := by
        unfold sp cnt
        rw [List.length_eq_zero_iff, List.filter_eq_nil_iff]
        intro j hj
        rw [List.mem_range] at hj
        intro hh
        rw [Bool.and_eq_true, Bool.and_eq_true, decide_eq_true_iff, Bool.not_eq_true', decide_eq_false_iff_not] at hh
        exact hh.2.2 (zero_last ht hj hh.1)
      have := w.2.2.2.1
      rw [h0] at this ⊢
      omega
  · rw [clr_get]
    split
    · exact .inl rfl
    · rename_i hh
      rcases hp.what s hs1 with h | h | h
      · exact .inl h
      · obtain ⟨i, i1, i2, i3, i4⟩ := h
        refine .inr ⟨i, i1, ?_, so hs1 i4⟩
        refine Classical.byContradiction fun hf => hh ⟨by omega, fun e => hf (.inr (by omega)), ?_⟩
        rw [i4, Int.toNat_natCast]
        exact (lms_iff.1 i2).2.1
      · obtain ⟨i, i1, i2, i3, i4⟩ := h
        exact .inr ⟨i, i1, .inl i2, so hs1 i3⟩

/-- The second pass. -/
def smS (x : List Int) (st : List Int × (Int → Nat)) (k : Nat) : List Int × (Int → Nat) :=
  if st.1.getD k (-1) - 1 < 0 then st else if knd x (st.1.getD k (-1) - 1).toNat = true then
    (st.1.set (st.2 (x.getD (st.1.getD k (-1) - 1).toNat 0) - 1) (st.1.getD k (-1) - 1), upd st.2 (x.getD (st.1.getD k (-1) - 1).toNat 0) (st.2 (x.getD (st.1.getD k (-1) - 1).toNat 0) - 1))
  else st
def smN (x : List Int) (o : List Int) : Nat → List Int × (Int → Nat)
  | 0 => (o, tl x)
  | j + 1 => smS x (smN x o j) (x.length - 1 - j)
theorem sm_all (ht : Tx x) {fs : Nat → Nat} {o : List Int} (hs : Laid x o fs) : ∀ j, j ≤ x.length → P2 x fs (x.length - j) (smN x o j).1 (smN x o j).2 := by
  intro j
  induction j with
  | zero => intro _; exact P2.start hs
  | succ j ih =>
    intro hk
    have hp := ih (by omega)
    show P2 x fs (x.length - (j + 1)) (smS x (smN x o j) (x.length - 1 - j)).1 (smS x (smN x o j) (x.length - 1 - j)).2
    generalize smN x o j = st at *
    obtain ⟨o1, h⟩ := st
    have hp : P2 x fs (x.length - j) o1 h := hp
    have hkk : x.length - j = (x.length - 1 - j) + 1 := by omega
    rw [hkk] at hp
    rw [show x.length - (j + 1) = x.length - 1 - j by omega]
    have hkn : x.length - 1 - j < x.length := by omega
    generalize x.length - 1 - j = k at *
    unfold smS
    show P2 x fs k (if o1.getD k (-1) - 1 < 0 then (o1, h) else _).1 (if o1.getD k (-1) - 1 < 0 then (o1, h) else _).2
    by_cases c1 : o1.getD k (-1) - 1 < 0
    · rw [if_pos c1]
      exact hp.skip fun i _ _ e => by omega
    · rw [if_neg c1]
      obtain ⟨i, hi⟩ := Int.eq_ofNat_of_zero_le (show 0 ≤ o1.getD k (-1) - 1 by omega)
      have hv : o1.getD k (-1) = ((i + 1 : Nat) : Int) := by omega
      have w := hp.where_ hs hkn hv
      show P2 x fs k (if knd x (o1.getD k (-1) - 1).toNat = true then _ else (o1, h)).1 (if knd x (o1.getD k (-1) - 1).toNat = true then _ else (o1, h)).2
      rw [show (o1.getD k (-1) - 1).toNat = i by omega, hi]
      by_cases c2 : knd x i = true
      · rw [if_pos c2]
        exact (hp.put ht hs hkn (by omega) (fun hf => by
          rcases hf with hf | hf
          · rw [c2] at hf; cases hf
          · omega) hv).2.2.2
      · rw [if_neg c2]
        exact hp.skip fun j _ hj e => by
          have : i = j := by omega
          subst this
          exact hj (.inl (by simpa using c2))

/-- The order that is induced. -/
def ind (x : List Int) (firsts : List Nat) : List Int := (smN x (clr x (lgN x (sowN x firsts).1 x.length).1) x.length).1
structure IndOk (x : List Int) (rk : Nat → Nat) (o : List Int) : Prop where
  len : o.length = x.length
  at_ : ∀ i, i < x.length → slot o i < x.length ∧ o.getD (slot o i) (-1) = (i : Int)
  all : ∀ s, s < x.length → ∃ i, i < x.length ∧ o.getD s (-1) = (i : Int) ∧ slot o i = s
  ok : ∃ s1, S1 x s1 rk ∧ S2 x s1 (slot o)
theorem ind_ok (ht : Tx x) (h2 : 2 ≤ x.length) {firsts : List Nat} (hn : firsts.Nodup) (hm : ∀ i, i ∈ firsts ↔ i < x.length ∧ lms x i = true) : IndOk x (fun i => firsts.idxOf i) (ind x firsts) := by
  have hs := sow_seeds hn hm
  have hp1 := lg_all ht hs x.length (Nat.le_refl _)
  have hl := clr_laid ht h2 hs hp1
  have hp2 := sm_all ht hl x.length (Nat.le_refl _)
  rw [Nat.sub_self] at hp2
  have hS1 := hp1.slots ht hs
  have hS2 := hp2.slots ht hl (s1 := slot (lgN x (sowN x firsts).1 x.length).1) fun i _ _ => rfl
  have e : ind x firsts = (smN x (clr x (lgN x (sowN x firsts).1 x.length).1) x.length).1 := rfl
  rw [← e] at hS2 hp2
  generalize ind x firsts = o at *
  have hinj : ∀ s t, s < o.length → t < o.length → ∀ i : Nat, o.getD s (-1) = (i : Int) → o.getD t (-1) = (i : Int) → s = t := fun s t a b => hp2.inj s t (by rw [← hp2.len]; exact a) (by rw [← hp2.len]; exact b)
  have so : ∀ {s i : Nat}, s < x.length → o.getD s (-1) = (i : Int) → slot o i = s := fun a b => slot_of hinj (by rw [hp2.len]; exact a) b
  have hat : ∀ i, i < x.length → slot o i < x.length ∧ o.getD (slot o i) (-1) = (i : Int) := fun i hi => by
    obtain ⟨s, s1, s2⟩ := hp2.all hl _ i (Nat.le_refl _) hi
    rw [so s1 s2]
    exact ⟨s1, s2⟩
  refine ⟨hp2.len, hat, fun s hs1 => ?_, _, hS1, hS2⟩
  -- as many slots as places
  have hnd : ((List.range x.length).map (slot o)).Nodup := by
    rw [List.nodup_iff_pairwise_ne, List.pairwise_map]
    refine (List.nodup_iff_pairwise_ne.1 List.nodup_range).imp_of_mem fun {a b} ha hb hne e => hne ?_
    rw [List.mem_range] at ha hb
    have e1 := (hat a ha).2
    have e2 := (hat b hb).2
    rw [e] at e1
    omega
  have : s ∈ (List.range x.length).map (slot o) := Classical.byContradiction fun hno => by
    have := pigeonN (s :: (List.range x.length).map (slot o)) (List.range x.length) (List.nodup_cons.2 ⟨hno, hnd⟩) fun y hy => by
      rw [List.mem_cons] at hy
      rw [List.mem_range]
      rcases hy with rfl | hy
      · exact hs1
      · obtain ⟨i, hi, rfl⟩ := List.mem_map.1 hy
        exact (hat i (List.mem_range.1 hi)).1
    simp at this
    omega
  obtain ⟨i, hi, rfl⟩ := List.mem_map.1 this
  exact ⟨i, List.mem_range.1 hi, (hat i (List.mem_range.1 hi)).2, rfl⟩
end Go.Proofs.Ytmmacpicbonhhaa.Ind

/- Induced sorting, plain: what it tells of suffixes, pieces and the reduced text. -/
namespace Go.Proofs.Ytmmacpicbonhhaa.Ind
open Go.Proofs.Ytmmacpicbonhhaa
variable {x : List Int}

/-- Two lists of places, both rising by slots, are one. -/
theorem order_list {o : List Int} {rk : Nat → Nat} (h : IndOk x rk o) : ∃ l : List Nat, o = l.map Int.ofNat ∧ l.Perm (List.range x.length) ∧ l.Pairwise (fun i j => slot o i < slot o j) := by
  refine ⟨o.map Int.toNat, ?_, ?_, ?_⟩
  · rw [List.map_map]
    refine List.ext_getElem (by simp) fun s h1 h2 => ?_
    rw [List.getElem_map]
    obtain ⟨i, i1, i2, i3⟩ := h.all s (by rw [← h.len]; exact h1)
    rw [List.getD_eq_getElem?_getD, List.getElem?_eq_getElem h1] at i2
    have i2 : o[s] = (i : Int) := i2
    rw [i2]
    rfl
  · have hnd : (o.map Int.toNat).Nodup := by
      rw [List.nodup_iff_pairwise_ne, List.pairwise_iff_getElem]
      intro s t h1 h2 hlt e
      rw [List.length_map] at h1 h2
      rw [List.getElem_map, List.getElem_map] at e
      obtain ⟨i, i1, i2, i3⟩ := h.all s (by rw [← h.len]; exact h1)
      obtain ⟨j, j1, j2, j3⟩ := h.all t (by rw [← h.len]; exact h2)
      rw [List.getD_eq_getElem?_getD, List.getElem?_eq_getElem h1] at i2
      rw [List.getD_eq_getElem?_getD, List.getElem?_eq_getElem h2] at j2
      have i2 : o[s] = (i : Int) := i2
      have j2 : o[t] = (j : Int) := j2
      rw [i2, j2] at e
      have : i = j := by simpa using e
      subst this
      omega
    refine (List.perm_ext_iff_of_nodup hnd List.nodup_range).2 fun i => ?_
    rw [List.mem_range]
    constructor
    · intro hi
      obtain ⟨v, hv, rfl⟩ := List.mem_map.1 hi
      obtain ⟨s, hs, rfl⟩ := List.getElem_of_mem hv
      obtain ⟨i, i1, i2, i3⟩ := h.all s (by rw [← h.len]; exact hs)
      rw [List.getD_eq_getElem?_getD, List.getElem?_eq_getElem hs] at i2
      have i2 : o[s] = (i : Int) := i2
      rw [i2]
      exact i1
    · intro hi
      obtain ⟨h1, h2⟩ := h.at_ i hi
      have hs : slot o i < o.length := by rw [h.len]; exact h1
      rw [List.getD_eq_getElem?_getD, List.getElem?_eq_getElem hs] at h2
      have h2 : o[slot o i] = (i : Int) := h2
      refine List.mem_map.2 ⟨(i : Int), ?_, rfl⟩
      rw [← h2]
      exact List.getElem_mem _
  · rw [List.pairwise_iff_getElem]
    intro s t h1 h2 hlt
    rw [List.length_map] at h1 h2
    rw [List.getElem_map, List.getElem_map]
    obtain ⟨i, i1, i2, i3⟩ := h.all s (by rw [← h.len]; exact h1)
    obtain ⟨j, j1, j2, j3⟩ := h.all t (by rw [← h.len]; exact h2)
    rw [List.getD_eq_getElem?_getD, List.getElem?_eq_getElem h1] at i2
    rw [List.getD_eq_getElem?_getD, List.getElem?_eq_getElem h2] at j2
    have i2 : o[s] = (i : Int) := i2
    have j2 : o[t] = (j : Int) := j2
    rw [i2, j2]
    show slot o i < slot o j
    omega
theorem rk_of_sorted {firsts : List Nat} (hm : ∀ i, i ∈ firsts ↔ i < x.length ∧ lms x i = true) (hs : Rises x firsts) : ∀ i j, i < x.length → j < x.length → lms x i = true → lms x j = true → (firsts.idxOf i < firsts.idxOf j ↔ cmpS x i j < 0) := fun i j hi hj li lj => by
  have mi := (hm i).2 ⟨hi, li⟩
  have mj := (hm j).2 ⟨hj, lj⟩
  constructor
  · exact idx_pair hs mi mj
  · intro hc
    rcases Nat.lt_trichotomy (firsts.idxOf i) (firsts.idxOf j) with h | h | h
    · exact h
    · exfalso
      have h1 := List.idxOf_lt_length_iff.2 mi
      have h2 := List.idxOf_lt_length_iff.2 mj
      have e1 := List.getElem_idxOf h1
      have e2 := List.getElem_idxOf h2
      have : i = j := by rw [← e1, ← e2]; congr 1
      subst this
      rw [cmpS_self] at hc
      omega
    · exact absurd hc (cmp_lt_asymm (idx_pair hs mj mi h))
/-- From the first Ss in the order of their suffixes the order of all is induced. -/
theorem ind_sorted (ht : Tx x) (h2 : 2 ≤ x.length) {firsts : List Nat} (hm : ∀ i, i ∈ firsts ↔ i < x.length ∧ lms x i = true) (hs : Rises x firsts) : ind x firsts = sortS x := by
  have hn : firsts.Nodup := by
    rw [List.nodup_iff_pairwise_ne]
    refine hs.imp fun {a b} h e => ?_
    subst e
    rw [cmpS_self] at h
    omega
  have hok := ind_ok ht h2 hn hm
  obtain ⟨s1, hS1, hS2⟩ := hok.ok
  obtain ⟨l, hl, hp, hr⟩ := order_list hok
  have hrk := rk_of_sorted hm hs
  have : l = sortN x x.length := by
    refine Rises.one (l := x) ?_ (sortN_rises x x.length (Nat.le_refl _)) (hp.trans (sortN_perm x x.length).symm)
    refine hr.imp_of_mem fun {i j} hi hj h => ?_
    have hi := List.mem_range.1 (hp.mem_iff.1 hi)
    have hj := List.mem_range.1 (hp.mem_iff.1 hj)
    exact (full2 ht hS1 hS2 hrk _ i j (Nat.le_refl _) hi hj).1 h
  rw [hl, this]
  rfl
/-- Pieces rise in the order that is induced from whatever order of the first Ss. -/
theorem ind_pieces (ht : Tx x) (h2 : 2 ≤ x.length) {firsts : List Nat} (hn : firsts.Nodup) (hm : ∀ i, i ∈ firsts ↔ i < x.length ∧ lms x i = true) {i j : Nat} (hi : i < x.length) (hj : j < x.length) (hz : zc x i j < 0) : slot (ind x firsts) i < slot (ind x firsts) j := by
  obtain ⟨s1, hS1, hS2⟩ := (ind_ok ht h2 hn hm).ok
  exact piece2 ht hS1 hS2 hi hj hz

/-! ### the reduced text -/
/-- The first Ss by places. -/
structure Firsts (x : List Int) (f : List Nat) : Prop where
  up : f.Pairwise (· < ·)
  mem : ∀ i, i ∈ f ↔ i < x.length ∧ lms x i = true
theorem Firsts.get {f : List Nat} (hf : Firsts x f) {a : Nat} (ha : a < f.length) : f.getD a 0 < x.length ∧ lms x (f.getD a 0) = true := by
  refine (hf.mem _).1 ?_
  rw [List.getD_eq_getElem?_getD, List.getElem?_eq_getElem ha]
  exact List.getElem_mem _
theorem Firsts.lt {f : List Nat} (hf : Firsts x f) {a b : Nat} (hb : b < f.length) (h : a < b) : f.getD a 0 < f.getD b 0 := by
  have := List.pairwise_iff_getElem.1 hf.up a b (by omega) hb h
  rw [List.getD_eq_getElem?_getD, List.getD_eq_getElem?_getD, List.getElem?_eq_getElem hb, List.getElem?_eq_getElem (show a < f.length by omega)]
  exact this
theorem Firsts.at_ {f : List Nat} (hf : Firsts x f) {i : Nat} (hi : i < x.length) (hl : lms x i = true) : ∃ a, a < f.length ∧ f.getD a 0 = i := by
  obtain ⟨a, ha, e⟩ := List.getElem_of_mem ((hf.mem i).2 ⟨hi, hl⟩)
  exact ⟨a, ha, by rw [List.getD_eq_getElem?_getD, List.getElem?_eq_getElem ha]; exact e⟩
/-- The next first S. -/
theorem Firsts.next {f : List Nat} (hf : Firsts x f) {a t : Nat} (ha : a < f.length) (h1 : 1 ≤ t) (hn : f.getD a 0 + t < x.length) (hl : lms x (f.getD a 0 + t) = true) (hno : ∀ u, 1 ≤ u → u < t → lms x (f.getD a 0 + u) = false) : a + 1 < f.length ∧ f.getD (a + 1) 0 = f.getD a 0 + t := by
  obtain ⟨b, hb, e⟩ := hf.at_ hn hl
  have hab : a < b := by
    rcases Nat.lt_trichotomy a b with h | h | h
    · exact h
    · subst h; omega
    · have := hf.lt ha h; omega
  have hb1 : b = a + 1 := by
    refine Classical.byContradiction fun hne => ?_
    have h3 := hf.lt (a := a) (b := a + 1) (by omega) (by omega)
    have h4 := hf.lt (a := a + 1) (b := b) hb (by omega)
    have h5 := hno (f.getD (a + 1) 0 - f.getD a 0) (by omega) (by omega)
    rw [show f.getD a 0 + (f.getD (a + 1) 0 - f.getD a 0) = f.getD (a + 1) 0 by omega, (hf.get (show a + 1 < f.length by omega)).2] at h5
    cases h5
  subst hb1
  exact ⟨hb, e⟩
theorem Firsts.last {f : List Nat} (ht : Tx x) (h2 : 2 ≤ x.length) (hf : Firsts x f) : 0 < f.length ∧ f.getD (f.length - 1) 0 = x.length - 1 := by
  have ll : lms x (x.length - 1) = true := by
    refine lms_iff.2 ⟨by omega, knd_last ht, ?_⟩
    cases hk : knd x (x.length - 1 - 1) with
    | false => rfl
    | true => have := s_far ht (show x.length - 1 - 1 + 1 < x.length by omega) hk; omega
  obtain ⟨a, ha, e⟩ := hf.at_ (show x.length - 1 < x.length by omega) ll
  refine ⟨by omega, ?_⟩
  have : a = f.length - 1 := Classical.byContradiction fun hne => by
    have h1 := hf.lt (a := a) (b := f.length - 1) (by omega) (by omega)
    have := (hf.get (show f.length - 1 < f.length by omega)).1
    omega
  rw [← this]
  exact e
/-- At most half as many first Ss as places. -/
theorem Firsts.half {f : List Nat} (hf : Firsts x f) : 2 * f.length ≤ x.length := by
  have hnd : (f ++ f.map (· - 1)).Nodup := by
    have n1 : f.Nodup := by
      rw [List.nodup_iff_pairwise_ne]
      exact hf.up.imp fun h => by omega
    have n2 : (f.map (· - 1)).Nodup := by
      rw [List.nodup_iff_pairwise_ne, List.pairwise_map]
      refine hf.up.imp_of_mem fun {a b} ha hb h e => ?_
      have h1 := (lms_iff.1 ((hf.mem a).1 ha).2).1
      omega
    refine List.nodup_append.2 ⟨n1, n2, fun a ha b hb e => ?_⟩
    obtain ⟨c, hc, rfl⟩ := List.mem_map.1 hb
    have h1 := lms_iff.1 ((hf.mem a).1 ha).2
    have h2 := lms_iff.1 ((hf.mem c).1 hc).2
    rw [e, h2.2.2] at h1
    exact absurd h1.2.1 (by decide)
  have := pigeonN _ (List.range x.length) hnd fun y hy => by
    rw [List.mem_range]
    rcases List.mem_append.1 hy with hy | hy
    · exact ((hf.mem y).1 hy).1
    · obtain ⟨c, hc, rfl⟩ := List.mem_map.1 hy
      have := ((hf.mem c).1 hc).1
      omega
  rw [List.length_append, List.length_map, List.length_range] at this
  omega

/-- Names of pieces: they compare as the pieces. -/
structure Named (x : List Int) (f : List Nat) (r : List Int) : Prop where
  len : r.length = f.length
  lt : ∀ a b, a < f.length → b < f.length → (r.getD a 0 < r.getD b 0 ↔ zc x (f.getD a 0) (f.getD b 0) < 0)
  zero : r.getD (f.length - 1) 0 = 0
theorem Named.eq {f : List Nat} {r : List Int} (h : Named x f r) {a b : Nat} (ha : a < f.length) (hb : b < f.length) (e : r.getD a 0 = r.getD b 0) : zc x (f.getD a 0) (f.getD b 0) = 0 := by
  have h1 := h.lt a b ha hb
  have h2 := h.lt b a hb ha
  rw [zc_swap] at h2
  omega
theorem Named.tx (ht : Tx x) (h2 : 2 ≤ x.length) {f : List Nat} {r : List Int} (hf : Firsts x f) (h : Named x f r) : Tx r := by
  obtain ⟨h1, h3⟩ := hf.last ht h2
  refine ⟨by rw [h.len]; exact h1, by rw [h.len]; exact h.zero, fun a ha => ?_⟩
  rw [h.len] at ha
  have := (h.lt (f.length - 1) a (by omega) (by omega)).2 (by
    rw [h3]
    have hl := hf.lt (a := a) (b := f.length - 1) (by omega) (by omega)
    rw [h3] at hl
    unfold zc
    rw [ht.last, if_pos (ht.mid _ (by omega))]
    decide)
  rw [h.zero] at this
  exact this
/-- The reduced text's suffixes are ordered as those of the first Ss. -/
theorem Named.cmp (ht : Tx x) (h2 : 2 ≤ x.length) {f : List Nat} {r : List Int} (hf : Firsts x f) (h : Named x f r) : ∀ d a b : Nat, f.length - a ≤ d → a < f.length → b < f.length → (cmpS r a b < 0 ↔ cmpS x (f.getD a 0) (f.getD b 0) < 0) := by
  intro d
  induction d with
  | zero => intro a b hd ha; omega
  | succ d ih =>
    intro a b hd ha hb
    have fa := hf.get ha
    have fb := hf.get hb
    rw [step r a b (by rw [h.len]; exact ha) (by rw [h.len]; exact hb)]
    by_cases c1 : r.getD a 0 < r.getD b 0
    · rw [if_pos c1]
      exact ⟨fun _ => zc_cmp ht fa.1 fb.1 ((h.lt a b ha hb).1 c1), fun _ => by decide⟩
    by_cases c2 : r.getD b 0 < r.getD a 0
    · rw [if_neg c1, if_pos c2]
      have := zc_cmp ht fb.1 fa.1 ((h.lt b a hb ha).1 c2)
      exact ⟨fun h => absurd h (by decide), fun h => absurd h (cmp_lt_asymm this)⟩
    rw [if_neg c1, if_neg c2]
    have hz := h.eq ha hb (by omega)
    unfold zc at hz
    by_cases e1 : x.getD (f.getD a 0) 0 < x.getD (f.getD b 0) 0
    · rw [if_pos e1] at hz; exact absurd hz (by decide)
    by_cases e2 : x.getD (f.getD b 0) 0 < x.getD (f.getD a 0) 0
    · rw [if_neg e1, if_pos e2] at hz; exact absurd hz (by decide)
    rw [if_neg e1, if_neg e2] at hz
    by_cases e3 : f.getD a 0 + 1 = x.length ∨ f.getD b 0 + 1 = x.length
    · -- both are the last place
      have hab : f.getD a 0 = f.getD b 0 := by
        rcases e3 with e3 | e3
        · have z0 := ht.last
          rw [show x.length - 1 = f.getD a 0 by omega] at z0
          have := zero_last ht fb.1 (by omega)
          omega
        · have z0 := ht.last
          rw [show x.length - 1 = f.getD b 0 by omega] at z0
          have := zero_last ht fa.1 (by omega)
          omega
      have : a = b := by
        rcases Nat.lt_trichotomy a b with h | h | h
        · have := hf.lt hb h; omega
        · exact h
        · have := hf.lt ha h; omega
      subst this
      rw [cmpS_self, cmpS_self]
    · rw [if_neg e3] at hz
      obtain ⟨t, t1, t2, t3, t4, t5, t6, t7, t8⟩ := zt_zero ht _ (f.getD a 0) (f.getD b 0) (Nat.sub_le _ _) (by omega) (by omega) (by omega) hz
      obtain ⟨a1, a2⟩ := hf.next ha t1 t2 t4 fun u u1 u2 => (t6 u u1 u2).1
      obtain ⟨b1, b2⟩ := hf.next hb t1 t3 t5 fun u u1 u2 => (t6 u u1 u2).2
      rw [ih (a + 1) (b + 1) (by omega) a1 b1, t8, a2, b2]
/-- The first Ss, laid out by the order of the reduced text's suffixes, rise. -/
theorem Named.back (ht : Tx x) (h2 : 2 ≤ x.length) {f : List Nat} {r : List Int} (hf : Firsts x f) (h : Named x f r) {o : List Nat} (ho : Rises r o) (hm : ∀ a ∈ o, a < f.length) : Rises x (o.map fun a => f.getD a 0) := by
  unfold Rises at *
  rw [List.pairwise_map]
  exact ho.imp_of_mem fun {a b} ha hb hc => (h.cmp ht h2 hf _ a b (Nat.le_refl _) (hm a ha) (hm b hb)).1 hc
end Go.Proofs.Ytmmacpicbonhhaa.Ind

/- Induced sorting, plain: pieces as lists, their comparison, their names along an order. -/
namespace Go.Proofs.Ytmmacpicbonhhaa.Ind
open Go.Proofs.Ytmmacpicbonhhaa
variable {x : List Int}

/-- Code by code; one that the other one begins with is greater. -/
def cmpL : List Int → List Int → Int
  | [], [] => 0
  | [], _ :: _ => 1
  | _ :: _, [] => -1
  | a :: s, b :: t => if a < b then -1 else if b < a then 1 else cmpL s t
theorem cmpL_self : ∀ s, cmpL s s = 0
  | [] => rfl
  | a :: s => by rw [cmpL, if_neg (by omega), if_neg (by omega)]; exact cmpL_self s
theorem cmpL_eq : ∀ s t, cmpL s t = 0 → s = t
  | [], [], _ => rfl
  | [], _ :: _, h => absurd h (by rw [cmpL]; decide)
  | _ :: _, [], h => absurd h (by rw [cmpL]; decide)
  | a :: s, b :: t, h => by
    rw [cmpL] at h
    by_cases h1 : a < b
    · rw [if_pos h1] at h; exact absurd h (by decide)
    by_cases h2 : b < a
    · rw [if_neg h1, if_pos h2] at h; exact absurd h (by decide)
    rw [if_neg h1, if_neg h2] at h
    rw [cmpL_eq s t h, show a = b by omega]
theorem cmpL_trans : ∀ s t u, cmpL s t < 0 → cmpL t u < 0 → cmpL s u < 0
  | [], [], _, h, _ => absurd h (by rw [cmpL]; decide)
  | [], _ :: _, _, h, _ => absurd h (by rw [cmpL]; decide)
  | _ :: _, [], [], _, h => absurd h (by rw [cmpL]; decide)
  | _ :: _, [], _ :: _, _, h => absurd h (by rw [cmpL]; decide)
  | _ :: _, _ :: _, [], _, _ => by rw [cmpL]; decide
  | a :: s, b :: t, c :: u, h, h' => by
    rw [cmpL] at h h' ⊢
    by_cases h1 : a < b
    · by_cases h2 : b < c
      · rw [if_pos (by omega)]; decide
      · rw [if_neg h2] at h'
        by_cases h3 : c < b
        · rw [if_pos h3] at h'; exact absurd h' (by decide)
        · rw [if_pos (by omega)]; decide
    · rw [if_neg h1] at h
      by_cases h2 : b < a
      · rw [if_pos h2] at h; exact absurd h (by decide)
      · rw [if_neg h2] at h
        by_cases h3 : b < c
        · rw [if_pos (by omega)]; decide
        · rw [if_neg h3] at h'
          by_cases h4 : c < b
          · rw [if_pos h4] at h'; exact absurd h' (by decide)
          · rw [if_neg h4] at h'
            rw [if_neg (by omega), if_neg (by omega)]
            exact cmpL_trans s t u h h'

/-- Behind a place, to the next first S. -/
def pz (x : List Int) : Nat → Nat → List Int
  | 0, _ => []
  | d + 1, i => x.getD (i + 1) 0 :: if lms x (i + 1) = true then [] else pz x d (i + 1)
theorem far_of (h : Tx x) {k : Nat} (hk : k + 1 < x.length) (hl : ¬ lms x (k + 1) = true) : k + 2 < x.length := Classical.byContradiction fun hn => hl (by
  have hkl := knd_last h
  rw [show x.length - 1 = k + 1 by omega] at hkl
  refine lms_next.2 ⟨hkl, ?_⟩
  cases hkk : knd x k with
  | false => rfl
  | true => have := s_far h hk hkk; omega)
theorem zt_pz (h : Tx x) : ∀ d i j : Nat, x.length ≤ d + i → x.length ≤ d + j → i + 1 < x.length → j + 1 < x.length → zt x d i j = cmpL (pz x d i) (pz x d j) := by
  intro d
  induction d with
  | zero => intro i j h1 _ h3; omega
  | succ d ih =>
    intro i j h1 h2 hi hj
    rw [zt, pz, pz, cmpL]
    by_cases c1 : x.getD (i + 1) 0 < x.getD (j + 1) 0
    · rw [if_pos c1, if_pos c1]
    by_cases c2 : x.getD (j + 1) 0 < x.getD (i + 1) 0
    · rw [if_neg c1, if_neg c1, if_pos c2, if_pos c2]
    rw [if_neg c1, if_neg c1, if_neg c2, if_neg c2]
    by_cases li : lms x (i + 1) = true
    · rw [if_pos li, if_pos li]
      by_cases lj : lms x (j + 1) = true
      · rw [if_pos lj, if_pos lj]; rfl
      · have := far_of h hj lj
        obtain ⟨e, rfl⟩ : ∃ e, d = e + 1 := ⟨d - 1, by omega⟩
        rw [if_neg lj, if_neg lj, pz]; rfl
    · have fi := far_of h hi li
      obtain ⟨e, he⟩ : ∃ e, d = e + 1 := ⟨d - 1, by omega⟩
      rw [if_neg li, if_neg li]
      by_cases lj : lms x (j + 1) = true
      · rw [if_pos lj, if_pos lj, he, pz]; rfl
      · rw [if_neg lj, if_neg lj]
        exact ih (i + 1) (j + 1) (by omega) (by omega) fi (far_of h hj lj)
theorem pz_cut : ∀ (t d i : Nat), 1 ≤ t → t ≤ d → i + t < x.length → lms x (i + t) = true → (∀ u, 1 ≤ u → u < t → lms x (i + u) = false) → pz x d i = (x.drop (i + 1)).take t
  | 0, _, _, h, _, _, _, _ => by omega
  | t + 1, 0, _, _, h, _, _, _ => by omega
  | t + 1, d + 1, i, _, hd, hn, hl, hno => by
    rw [pz]
    have h1 : i + 1 < x.length := by omega
    have hx : x.drop (i + 1) = x.getD (i + 1) 0 :: x.drop (i + 1 + 1) := by
      rw [List.drop_eq_getElem_cons h1, List.getD_eq_getElem?_getD, List.getElem?_eq_getElem h1]; rfl
    rw [hx, List.take_succ_cons]
    congr 1
    by_cases h0 : t = 0
    · subst h0
      rw [if_pos hl, List.take_zero]
    · rw [if_neg (by rw [hno 1 (by omega) (by omega)]; decide)]
      exact pz_cut t d (i + 1) (by omega) (by omega) (by omega) (by rw [show i + 1 + t = i + (t + 1) by omega]; exact hl) fun u h1 h2 => by
        rw [show i + 1 + u = i + (u + 1) by omega]
        exact hno (u + 1) (by omega) (by omega)

/-- The piece of the a-th first S. -/
def pieceN (x : List Int) (f : List Nat) (a : Nat) : List Int := if a + 1 < f.length then (x.take (f.getD (a + 1) 0 + 1)).drop (f.getD a 0) else x.drop (f.getD a 0)
theorem pieceN_eq (ht : Tx x) (h2 : 2 ≤ x.length) {f : List Nat} (hf : Firsts x f) {a : Nat} (ha : a < f.length) : pieceN x f a = x.getD (f.getD a 0) 0 :: if f.getD a 0 + 1 = x.length then [] else pz x x.length (f.getD a 0) := by
  have hfa := hf.get ha
  have hx : x.drop (f.getD a 0) = x.getD (f.getD a 0) 0 :: x.drop (f.getD a 0 + 1) := by
    rw [List.drop_eq_getElem_cons hfa.1, List.getD_eq_getElem?_getD (l := x), List.getElem?_eq_getElem hfa.1]; rfl
  unfold pieceN
  by_cases h : a + 1 < f.length
  · have hfb := hf.get h
    have hlt := hf.lt (a := a) h (by omega)
    rw [if_pos h, if_neg (by omega), List.drop_take, hx, show f.getD (a + 1) 0 + 1 - f.getD a 0 = (f.getD (a + 1) 0 - f.getD a 0) + 1 by omega, List.take_succ_cons]
    congr 1
    rw [pz_cut (f.getD (a + 1) 0 - f.getD a 0) x.length (f.getD a 0) (by omega) (by omega) (by omega) (by rw [show f.getD a 0 + (f.getD (a + 1) 0 - f.getD a 0) = f.getD (a + 1) 0 by omega]; exact hfb.2) fun u u1 u2 => ?_]
    cases hl : lms x (f.getD a 0 + u) with
    | false => rfl
    | true =>
      obtain ⟨b, hb, e⟩ := hf.at_ (show f.getD a 0 + u < x.length by omega) hl
      exfalso
      have hab : a < b := by
        rcases Nat.lt_trichotomy a b with h3 | h3 | h3
        · exact h3
        · subst h3; omega
        · have := hf.lt ha h3; omega
      rcases Nat.lt_or_ge (a + 1) b with h3 | h3
      · have := hf.lt hb h3; omega
      · have : b = a + 1 := by omega
        subst this
        omega
  · have hl := hf.last ht h2
    have : a = f.length - 1 := by omega
    rw [if_neg h, hx, if_pos (by rw [this, hl.2]; omega), List.drop_of_length_le (by rw [this, hl.2]; omega)]
theorem zc_piece (ht : Tx x) (h2 : 2 ≤ x.length) {f : List Nat} (hf : Firsts x f) {a b : Nat} (ha : a < f.length) (hb : b < f.length) : zc x (f.getD a 0) (f.getD b 0) = cmpL (pieceN x f a) (pieceN x f b) := by
  have fa := hf.get ha
  have fb := hf.get hb
  rw [pieceN_eq ht h2 hf ha, pieceN_eq ht h2 hf hb, cmpL]
  unfold zc
  by_cases c1 : x.getD (f.getD a 0) 0 < x.getD (f.getD b 0) 0
  · rw [if_pos c1, if_pos c1]
  by_cases c2 : x.getD (f.getD b 0) 0 < x.getD (f.getD a 0) 0
  · rw [if_neg c1, if_neg c1, if_pos c2, if_pos c2]
  rw [if_neg c1, if_neg c1, if_neg c2, if_neg c2]
  by_cases e3 : f.getD a 0 + 1 = x.length ∨ f.getD b 0 + 1 = x.length
  · have both : f.getD a 0 + 1 = x.length ∧ f.getD b 0 + 1 = x.length := by
      rcases e3 with e3 | e3
      · have z0 := ht.last
        rw [show x.length - 1 = f.getD a 0 by omega] at z0
        exact ⟨e3, zero_last ht fb.1 (by omega)⟩
      · have z0 := ht.last
        rw [show x.length - 1 = f.getD b 0 by omega] at z0
        exact ⟨zero_last ht fa.1 (by omega), e3⟩
    rw [if_pos e3, if_pos both.1, if_pos both.2]
    rfl
  · rw [if_neg e3, if_neg (fun e => e3 (.inl e)), if_neg (fun e => e3 (.inr e))]
    exact zt_pz ht _ _ _ (by omega) (by omega) (by omega) (by omega)

/-! ### names along an order -/
/-- The first Ss of an order, told by their numbers; n: names so far, p: the piece ahead. -/
def nameGo (x : List Int) (f : List Nat) : List Nat → Nat → Option Nat → List (Nat × Nat)
  | [], _, _ => []
  | a :: r, n, none => (a, n) :: nameGo x f r n (some a)
  | a :: r, n, some b => if pieceN x f a = pieceN x f b then (a, n) :: nameGo x f r n (some a) else (a, n + 1) :: nameGo x f r (n + 1) (some a)
/-- Pieces rise along a row: names compare as they. -/
theorem nameGo_ge (x : List Int) (f : List Nat) : ∀ (q : List Nat) (n : Nat) (p : Option Nat), ∀ e ∈ nameGo x f q n p, n ≤ e.2
  | [], _, _, e, h => by simp [nameGo] at h
  | a :: r, n, none, e, h => by
    rw [nameGo, List.mem_cons] at h
    rcases h with rfl | h
    · exact Nat.le_refl _
    · exact nameGo_ge x f r n _ e h
  | a :: r, n, some b, e, h => by
    rw [nameGo] at h
    split at h
    · rw [List.mem_cons] at h
      rcases h with rfl | h
      · exact Nat.le_refl _
      · exact nameGo_ge x f r n _ e h
    · rw [List.mem_cons] at h
      rcases h with rfl | h
      · exact Nat.le_succ _
      · exact Nat.le_of_succ_le (nameGo_ge x f r (n + 1) _ e h)
theorem cmpL_swap : ∀ s t, cmpL t s = - cmpL s t
  | [], [] => rfl
  | [], _ :: _ => rfl
  | _ :: _, [] => rfl
  | a :: s, b :: t => by
    rw [cmpL, cmpL]
    by_cases h1 : a < b
    · rw [if_neg (show ¬ b < a by omega), if_pos h1, if_pos h1]; rfl
    · by_cases h2 : b < a
      · rw [if_pos h2, if_neg h1, if_pos h2]
      · rw [if_neg h2, if_neg h1, if_neg h1, if_neg h2]
        exact cmpL_swap s t
theorem cmpL_weak {s t : List Int} (h : ¬ cmpL t s < 0) (hne : s ≠ t) : cmpL s t < 0 := by
  have := cmpL_swap s t
  have : cmpL s t ≠ 0 := fun e => hne (cmpL_eq s t e)
  omega
theorem nameGo_rel (x : List Int) (f : List Nat) : ∀ (r : List Nat) (m a : Nat), (∀ b ∈ r, ¬ cmpL (pieceN x f b) (pieceN x f a) < 0) → r.Pairwise (fun b c => ¬ cmpL (pieceN x f c) (pieceN x f b) < 0) →
    ∀ e ∈ nameGo x f r m (some a), (m < e.2 ↔ cmpL (pieceN x f a) (pieceN x f e.1) < 0)
  | [], _, _, _, _, e, h => by simp [nameGo] at h
  | b :: r, m, a, ha, hr, e, h => by
    obtain ⟨hr1, hr2⟩ := List.pairwise_cons.1 hr
    rw [nameGo] at h
    by_cases hp : pieceN x f b = pieceN x f a
    · rw [if_pos hp, List.mem_cons] at h
      rcases h with rfl | h
      · show m < m ↔ cmpL (pieceN x f a) (pieceN x f b) < 0
        rw [hp, cmpL_self]
        omega
      · rw [← hp]
        exact nameGo_rel x f r m b hr1 hr2 e h
    · rw [if_neg hp, List.mem_cons] at h
      have hab := cmpL_weak (ha b (by simp)) (fun e => hp e.symm)
      rcases h with rfl | h
      · exact ⟨fun _ => hab, fun _ => Nat.lt_succ_self m⟩
      · have hge := nameGo_ge x f r (m + 1) _ e h
        have ih := nameGo_rel x f r (m + 1) b hr1 hr2 e h
        refine ⟨fun _ => ?_, fun _ => by omega⟩
        by_cases hlt : m + 1 < e.2
        · exact cmpL_trans _ _ _ hab (ih.1 hlt)
        · have hmem : e.1 ∈ r := by
            have : ∀ (q : List Nat) (n : Nat) (p : Option Nat), ∀ e ∈ nameGo x f q n p, e.1 ∈ q := by
              intro q
              induction q with
              | nil => intro n p e h; simp [nameGo] at h
              | cons c q ihq =>
                intro n p e h
                cases p with
                | none =>
                  rw [nameGo, List.mem_cons] at h
                  rcases h with rfl | h
                  · simp
                  · simp [ihq _ _ e h]
                | some p =>
                  rw [nameGo] at h
                  split at h
                  · rw [List.mem_cons] at h
                    rcases h with rfl | h
                    · simp
                    · simp [ihq _ _ e h]
                  · rw [List.mem_cons] at h
                    rcases h with rfl | h
                    · simp
                    · simp [ihq _ _ e h]
            exact this r (m + 1) _ e h
          have hpe : pieceN x f b = pieceN x f e.1 := Classical.byContradiction fun hne => hlt (ih.2 (cmpL_weak (hr1 e.1 hmem) hne))
          rw [← hpe]
          exact hab
theorem nameGo_pair (x : List Int) (f : List Nat) : ∀ (q : List Nat) (m : Nat) (p : Option Nat), q.Pairwise (fun b c => ¬ cmpL (pieceN x f c) (pieceN x f b) < 0) →
    (nameGo x f q m p).Pairwise fun e e' => e.2 ≤ e'.2 ∧ (e.2 < e'.2 ↔ cmpL (pieceN x f e.1) (pieceN x f e'.1) < 0)
  | [], _, _, _ => by simp [nameGo]
  | a :: r, m, p, hq => by
    obtain ⟨h1, h2⟩ := List.pairwise_cons.1 hq
    have one : ∀ n, ((a, n) :: nameGo x f r n (some a)).Pairwise fun e e' => e.2 ≤ e'.2 ∧ (e.2 < e'.2 ↔ cmpL (pieceN x f e.1) (pieceN x f e'.1) < 0) := fun n =>
      List.pairwise_cons.2 ⟨fun e he => ⟨nameGo_ge x f r n _ e he, nameGo_rel x f r n a h1 h2 e he⟩, nameGo_pair x f r n _ h2⟩
    cases p with
    | none => exact one m
    | some b =>
      rw [nameGo]
      split
      · exact one m
      · exact one (m + 1)
theorem nameGo_fst (x : List Int) (f : List Nat) : ∀ (q : List Nat) (m : Nat) (p : Option Nat), (nameGo x f q m p).map (·.1) = q
  | [], _, _ => rfl
  | a :: r, m, none => by rw [nameGo, List.map_cons, nameGo_fst]
  | a :: r, m, some b => by
    rw [nameGo]
    split
    · rw [List.map_cons, nameGo_fst]
    · rw [List.map_cons, nameGo_fst]
/-- The names of an order in which pieces rise are names. -/
theorem names_ok (ht : Tx x) (h2 : 2 ≤ x.length) {f : List Nat} (hf : Firsts x f) {q : List Nat} (hq : q.Perm (List.range f.length)) (hr : q.Pairwise (fun b c => ¬ cmpL (pieceN x f c) (pieceN x f b) < 0)) {r : List Int} (hl : r.length = f.length)
    (hn : ∀ e ∈ nameGo x f q 0 none, r.getD e.1 0 = (e.2 : Int)) : Named x f r := by
  have hpair := nameGo_pair x f q 0 none hr
  have hfst := nameGo_fst x f q 0 none
  obtain ⟨hl1, hl2⟩ := hf.last ht h2
  have inq : ∀ a, a < f.length → a ∈ q := fun a ha => hq.mem_iff.2 (List.mem_range.2 ha)
  have find : ∀ a, a < f.length → ∃ i, ∃ h : i < (nameGo x f q 0 none).length, ((nameGo x f q 0 none)[i]).1 = a := fun a ha => by
    have := inq a ha
    rw [← hfst] at this
    obtain ⟨e, he, rfl⟩ := List.mem_map.1 this
    obtain ⟨i, hi, e2⟩ := List.getElem_of_mem he
    exact ⟨i, hi, by rw [e2]⟩
  have lt_ : ∀ a b, a < f.length → b < f.length → (r.getD a 0 < r.getD b 0 ↔ cmpL (pieceN x f a) (pieceN x f b) < 0) := fun a b ha hb => by
    obtain ⟨i, hi, e1⟩ := find a ha
    obtain ⟨j, hj, e2⟩ := find b hb
    have n1 := hn _ (List.getElem_mem hi)
    have n2 := hn _ (List.getElem_mem hj)
    rw [e1] at n1
    rw [e2] at n2
    rcases Nat.lt_trichotomy i j with h | h | h
    · have := List.pairwise_iff_getElem.1 hpair i j hi hj h
      rw [e1, e2] at this
      rw [n1, n2, ← this.2]
      omega
    · subst h
      have : a = b := by rw [← e1, ← e2]
      subst this
      rw [cmpL_self]
      omega
    · have := List.pairwise_iff_getElem.1 hpair j i hj hi h
      rw [e1, e2] at this
      have hs := cmpL_swap (pieceN x f b) (pieceN x f a)
      constructor
      · intro h; omega
      · intro hc
        have : ¬ cmpL (pieceN x f b) (pieceN x f a) < 0 := by omega
        have hne : ((nameGo x f q 0 none)[j]).2 ≤ ((nameGo x f q 0 none)[i]).2 := by omega
        -- b stands ahead of a, so b's piece isn't greater
        exfalso
        have hqi : q[j]? = some b ∧ q[i]? = some a := by
          rw [← hfst, List.getElem?_map, List.getElem?_map, List.getElem?_eq_getElem hi, List.getElem?_eq_getElem hj]
          exact ⟨by rw [Option.map_some, e2], by rw [Option.map_some, e1]⟩
        obtain ⟨hj2, ej⟩ := List.getElem?_eq_some_iff.1 hqi.1
        obtain ⟨hi2, ei⟩ := List.getElem?_eq_some_iff.1 hqi.2
        have h5 := List.pairwise_iff_getElem.1 hr j i hj2 hi2 h
        rw [ej, ei] at h5
        exact h5 hc
  refine ⟨hl, fun a b ha hb => by rw [lt_ a b ha hb, zc_piece ht h2 hf ha hb], ?_⟩
  -- the last one's piece is least: its name is that of the first in the row
  obtain ⟨i, hi, e1⟩ := find (f.length - 1) (by omega)
  have n1 := hn _ (List.getElem_mem hi)
  rw [e1] at n1
  have hge0 : 0 < (nameGo x f q 0 none).length := by omega
  have hz : ((nameGo x f q 0 none)[0]).2 = 0 := by
    cases q with
    | nil => simp [nameGo] at hi
    | cons a q => rfl
  rcases Nat.eq_zero_or_pos i with h0 | h0
  · subst h0
    rw [n1, hz]; rfl
  · have := List.pairwise_iff_getElem.1 hpair 0 i hge0 hi h0
    have hlt : ¬ ((nameGo x f q 0 none)[0]).2 < ((nameGo x f q 0 none)[i]).2 := fun h => by
      have hc := this.2.1 h
      rw [e1] at hc
      have ha : ((nameGo x f q 0 none)[0]).1 < f.length := by
        have hin : ((nameGo x f q 0 none)[0]).1 ∈ (nameGo x f q 0 none).map (·.1) := List.mem_map.2 ⟨_, List.getElem_mem hge0, rfl⟩
        have hin := List.Perm.subset (List.Perm.of_eq hfst) hin
        exact List.mem_range.1 (hq.mem_iff.1 hin)
      generalize ((nameGo x f q 0 none)[0]).1 = a at *
      rw [← zc_piece ht h2 hf ha (by omega), hl2] at hc
      unfold zc at hc
      have hm : 0 ≤ x.getD (f.getD a 0) 0 := by
        have hfa := hf.get ha
        rcases Nat.lt_or_ge (f.getD a 0 + 1) x.length with h | h
        · have := ht.mid _ h; omega
        · rw [show f.getD a 0 = x.length - 1 by omega, ht.last]; omega
      rw [ht.last, if_neg (by omega)] at hc
      split at hc
      · exact absurd hc (by decide)
      · rw [if_pos (.inr (by omega))] at hc; exact absurd hc (by decide)
    rw [n1]
    omega
end Go.Proofs.Ytmmacpicbonhhaa.Ind

/- Induced sorting, plain, 8: what the code's loops meet lies in range. -/
namespace Go.Proofs.Ytmmacpicbonhhaa.Ind
open Go.Proofs.Ytmmacpicbonhhaa
variable {x : List Int}

theorem lg_in (ht : Tx x) {sd rk : Nat → Nat} {o : List Int} (hs : Seeds x o sd rk) (k : Nat) (hk : k < x.length) :
    (lgN x o k).1.length = x.length ∧ -1 ≤ (lgN x o k).1.getD k (-1) ∧ (lgN x o k).1.getD k (-1) ≤ (x.length : Int) ∧
      (0 ≤ (lgN x o k).1.getD k (-1) - 1 → knd x ((lgN x o k).1.getD k (-1) - 1).toNat = false → (lgN x o k).2 (x.getD ((lgN x o k).1.getD k (-1) - 1).toNat 0) < x.length) := by
  have hp := lg_all ht hs k (by omega)
  generalize lgN x o k = st at *
  obtain ⟨p, h⟩ := st
  have hp : P1 x sd k p h := hp
  show p.length = x.length ∧ -1 ≤ p.getD k (-1) ∧ p.getD k (-1) ≤ (x.length : Int) ∧ (0 ≤ p.getD k (-1) - 1 → knd x (p.getD k (-1) - 1).toNat = false → h (x.getD (p.getD k (-1) - 1).toNat 0) < x.length)
  have hr : p.getD k (-1) = -1 ∨ ∃ i : Nat, i < x.length ∧ p.getD k (-1) = (i : Int) := by
    rcases hp.what k hk with e | ⟨i, hi, _, _, e⟩ | ⟨i, hi, _, e, _⟩
    · exact .inl e
    · exact .inr ⟨i, hi, e⟩
    · exact .inr ⟨i, hi, e⟩
  refine ⟨hp.len, ?_, ?_, fun h0 hk2 => ?_⟩
  · rcases hr with e | ⟨i, hi, e⟩ <;> omega
  · rcases hr with e | ⟨i, hi, e⟩ <;> omega
  · have hv : p.getD k (-1) = (((p.getD k (-1) - 1).toNat + 1 : Nat) : Int) := by omega
    have hi : (p.getD k (-1) - 1).toNat < x.length := by rcases hr with e | ⟨i, hi, e⟩ <;> omega
    exact (hp.put ht hs hk hi hk2 hv).1

/-- What 'clear' meets. -/
theorem lg_end (ht : Tx x) {sd rk : Nat → Nat} {o : List Int} (hs : Seeds x o sd rk) : (lgN x o x.length).1.length = x.length ∧ ∀ s, s < x.length → -1 ≤ (lgN x o x.length).1.getD s 0 ∧ (lgN x o x.length).1.getD s 0 < (x.length : Int) := by
  have hp := lg_all ht hs x.length (Nat.le_refl _)
  generalize lgN x o x.length = st at *
  obtain ⟨p, h⟩ := st
  have hp : P1 x sd x.length p h := hp
  refine ⟨hp.len, fun s hs => ?_⟩
  show -1 ≤ p.getD s 0 ∧ p.getD s 0 < (x.length : Int)
  have hl := hp.len
  have e : p.getD s 0 = p.getD s (-1) := by simp [List.getD_eq_getElem?_getD, show s < p.length by omega]
  rw [e]
  rcases hp.what s hs with e | ⟨i, hi, _, _, e⟩ | ⟨i, hi, _, e, _⟩ <;> omega

theorem sm_in (ht : Tx x) {fs : Nat → Nat} {o : List Int} (hs : Laid x o fs) (r : Nat) (hr : r < x.length) :
    (smN x o (x.length - (r + 1))).1.length = x.length ∧ -1 ≤ (smN x o (x.length - (r + 1))).1.getD r (-1) ∧ (smN x o (x.length - (r + 1))).1.getD r (-1) ≤ (x.length : Int) ∧
      (0 ≤ (smN x o (x.length - (r + 1))).1.getD r (-1) - 1 → knd x ((smN x o (x.length - (r + 1))).1.getD r (-1) - 1).toNat = true →
        1 ≤ (smN x o (x.length - (r + 1))).2 (x.getD ((smN x o (x.length - (r + 1))).1.getD r (-1) - 1).toNat 0) ∧ (smN x o (x.length - (r + 1))).2 (x.getD ((smN x o (x.length - (r + 1))).1.getD r (-1) - 1).toNat 0) ≤ x.length) := by
  have hp := sm_all ht hs (x.length - (r + 1)) (by omega)
  rw [show x.length - (x.length - (r + 1)) = r + 1 by omega] at hp
  generalize smN x o (x.length - (r + 1)) = st at *
  obtain ⟨p, t⟩ := st
  have hp : P2 x fs (r + 1) p t := hp
  show p.length = x.length ∧ -1 ≤ p.getD r (-1) ∧ p.getD r (-1) ≤ (x.length : Int) ∧ (0 ≤ p.getD r (-1) - 1 → knd x (p.getD r (-1) - 1).toNat = true → 1 ≤ t (x.getD (p.getD r (-1) - 1).toNat 0) ∧ t (x.getD (p.getD r (-1) - 1).toNat 0) ≤ x.length)
  have hq : p.getD r (-1) = -1 ∨ ∃ i : Nat, i < x.length ∧ p.getD r (-1) = (i : Int) := by
    rcases hp.what r hr with e | ⟨i, hi, _, _, e⟩ | ⟨i, hi, _, e, _⟩
    · exact .inl e
    · exact .inr ⟨i, hi, e⟩
    · exact .inr ⟨i, hi, e⟩
  refine ⟨hp.len, ?_, ?_, fun h0 hk2 => ?_⟩
  · rcases hq with e | ⟨i, hi, e⟩ <;> omega
  · rcases hq with e | ⟨i, hi, e⟩ <;> omega
  · have hv : p.getD r (-1) = (((p.getD r (-1) - 1).toNat + 1 : Nat) : Int) := by omega
    have hi : (p.getD r (-1) - 1).toNat + 1 < x.length := by rcases hq with e | ⟨i, hi, e⟩ <;> omega
    have hf : ¬ fixd x (p.getD r (-1) - 1).toNat := by
      unfold fixd
      rw [hk2]
      rintro (h | h)
      · cases h
      · omega
    refine ⟨(hp.put ht hs hr (by omega) hf hv).1, ?_⟩
    have := hp.hi (x.getD (p.getD r (-1) - 1).toNat 0)
    have := tl_le (x := x) (x.getD (p.getD r (-1) - 1).toNat 0)
    omega
end Go.Proofs.Ytmmacpicbonhhaa.Ind
