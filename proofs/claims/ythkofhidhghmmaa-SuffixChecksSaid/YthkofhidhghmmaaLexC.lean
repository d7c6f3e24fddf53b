/- Suffixes by comparison, in plain Lean: the order that is told alone is sorted. -/
import Derived.Sort.Statements
namespace Go.Proofs.Ythkofhidhghmmaa
open Go.Sort

/-- Lexicographic comparison. -/
def lexC : List Int → List Int → Int
  | [], [] => 0
  | [], _ :: _ => -1
  | _ :: _, [] => 1
  | a :: s, b :: t => if a < b then -1 else if b < a then 1 else lexC s t
theorem lexC_self : ∀ s, lexC s s = 0
  | [] => rfl
  | a :: s => by unfold lexC; rw [if_neg (by omega), if_neg (by omega)]; exact lexC_self s
theorem lexC_swap : ∀ s t, lexC t s = - lexC s t
  | [], [] => rfl
  | [], _ :: _ => rfl
  | _ :: _, [] => rfl
  | a :: s, b :: t => by
    unfold lexC
    by_cases h1 : a < b
    · rw [if_neg (show ¬ b < a by omega), if_pos h1, if_pos h1]; rfl
    · by_cases h2 : b < a
      · rw [if_pos h2, if_neg h1, if_pos h2]
      · rw [if_neg h2, if_neg h1, if_neg h1, if_neg h2]; exact lexC_swap s t
theorem lexC_eq : ∀ s t, lexC s t = 0 → s = t
  | [], [], _ => rfl
  | [], _ :: _, h => by simp [lexC] at h
  | _ :: _, [], h => by simp [lexC] at h
  | a :: s, b :: t, h => by
    unfold lexC at h
    by_cases h1 : a < b
    · rw [if_pos h1] at h; omega
    · by_cases h2 : b < a
      · rw [if_neg h1, if_pos h2] at h; omega
      · rw [if_neg h1, if_neg h2] at h
        rw [show a = b by omega, lexC_eq s t h]
theorem lexC_trans : ∀ s t u, lexC s t < 0 → lexC t u < 0 → lexC s u < 0
  | [], [], _, h, _ => by simp [lexC] at h
  | _ :: _, [], _, h, _ => by simp [lexC] at h
  | _, _ :: _, [], _, h => by simp [lexC] at h
  | [], _ :: _, _ :: _, _, _ => by simp [lexC]
  | a :: s, b :: t, c :: u, h, h' => by
    unfold lexC at h h' ⊢
    by_cases h1 : a < b
    · by_cases h2 : c < b
      · rw [if_neg (by omega), if_pos h2] at h'; omega
      · rw [if_pos (by omega)]; omega
    · by_cases h2 : b < a
      · rw [if_neg h1, if_pos h2] at h; omega
      · rw [if_neg h1, if_neg h2] at h
        obtain rfl : a = b := by omega
        by_cases h3 : a < c
        · rw [if_pos h3]; omega
        · by_cases h4 : c < a
          · rw [if_neg h3, if_pos h4] at h'; omega
          · rw [if_neg h3, if_neg h4] at h' ⊢
            exact lexC_trans s t u h h'
/-- The suffixes at two places. -/
def cmpS (l : List Int) (i j : Nat) : Int := lexC (l.drop i) (l.drop j)
theorem cmpS_swap (l : List Int) (i j : Nat) : cmpS l j i = - cmpS l i j := lexC_swap _ _
theorem cmpS_eq {l : List Int} {i j : Nat} (hi : i < l.length) (hj : j < l.length) (h : cmpS l i j = 0) : i = j := by
  have := congrArg List.length (lexC_eq _ _ h)
  rw [List.length_drop, List.length_drop] at this
  omega
theorem cmpS_trans {l : List Int} {i j k : Nat} (h : cmpS l i j < 0) (h' : cmpS l j k < 0) : cmpS l i k < 0 := lexC_trans _ _ _ h h'
theorem cmpS_self (l : List Int) (i : Nat) : cmpS l i i = 0 := lexC_self _
theorem cmpS_ntrans {l : List Int} {i j k : Nat} (h : 0 ≤ cmpS l i j) (h' : 0 ≤ cmpS l j k) : 0 ≤ cmpS l i k := by
  have e1 := cmpS_swap l i j
  have e2 := cmpS_swap l j k
  have e3 := cmpS_swap l i k
  by_cases h1 : cmpS l i j = 0
  · have := lexC_eq _ _ h1
    unfold cmpS at h' ⊢
    rw [this]; exact h'
  · by_cases h2 : cmpS l j k = 0
    · have := lexC_eq _ _ h2
      unfold cmpS at h ⊢
      rw [← this]; exact h
    · have := cmpS_trans (l := l) (i := k) (j := j) (k := i) (by omega) (by omega)
      omega

/-- A place put where it belongs. -/
def insS (l : List Int) (x : Nat) : List Nat → List Nat
  | [] => [x]
  | y :: t => if cmpS l y x < 0 then y :: insS l x t else x :: y :: t
/-- The places ahead of n, their suffixes rising. -/
def sortN (l : List Int) : Nat → List Nat
  | 0 => []
  | n + 1 => insS l n (sortN l n)
/-- The order of a text's suffixes. -/
def sortS (l : List Int) : List Int := (sortN l l.length).map Int.ofNat
theorem insS_perm (l : List Int) (x : Nat) : ∀ t, (insS l x t).Perm (x :: t)
  | [] => List.Perm.refl _
  | y :: t => by
    unfold insS
    split
    · exact ((insS_perm l x t).cons y).trans (List.Perm.swap x y t)
    · exact List.Perm.refl _
theorem sortN_perm (l : List Int) : ∀ n, (sortN l n).Perm (List.range n)
  | 0 => List.Perm.refl _
  | n + 1 => by
    rw [List.range_succ]
    exact (insS_perm l n _).trans (((sortN_perm l n).cons n).trans (List.perm_append_singleton n _).symm)
theorem sortN_mem (l : List Int) (n x : Nat) : x ∈ sortN l n ↔ x < n := by rw [(sortN_perm l n).mem_iff, List.mem_range]
/-- Rising. -/
def Rises (l : List Int) (o : List Nat) : Prop := o.Pairwise fun i j => cmpS l i j < 0
theorem insS_rises (l : List Int) (x : Nat) (hx : x < l.length) : ∀ t, Rises l t → (∀ y ∈ t, y < l.length ∧ y ≠ x) → Rises l (insS l x t)
  | [], _, _ => by simp [insS, Rises]
  | y :: t, h, hm => by
    obtain ⟨h1, h2⟩ := List.pairwise_cons.1 h
    unfold insS
    split
    · rename_i hlt
      refine List.pairwise_cons.2 ⟨fun z hz => ?_, insS_rises l x hx t h2 fun z hz => hm z (List.mem_cons_of_mem _ hz)⟩
      rcases List.mem_cons.1 ((insS_perm l x t).mem_iff.1 hz) with rfl | hz
      · exact hlt
      · exact h1 z hz
    · rename_i hge
      have hy := hm y (List.mem_cons_self ..)
      have hne : cmpS l y x ≠ 0 := fun e => hy.2 (cmpS_eq hy.1 hx e)
      have e := cmpS_swap l y x
      have hxy : cmpS l x y < 0 := by omega
      refine List.pairwise_cons.2 ⟨fun z hz => ?_, h⟩
      rcases List.mem_cons.1 hz with rfl | hz
      · exact hxy
      · exact cmpS_trans hxy (h1 z hz)
theorem sortN_rises (l : List Int) : ∀ n, n ≤ l.length → Rises l (sortN l n)
  | 0, _ => List.Pairwise.nil
  | n + 1, h => insS_rises l n (by omega) _ (sortN_rises l n (by omega)) fun y hy => by have := (sortN_mem l n y).1 hy; omega
theorem sortN_len (l : List Int) (n : Nat) : (sortN l n).length = n := by rw [(sortN_perm l n).length_eq, List.length_range]
theorem sortS_len (l : List Int) : (sortS l).length = l.length := by unfold sortS; rw [List.length_map, sortN_len]
/-- Two rising rows of the same places are one. -/
theorem Rises.one {l : List Int} : ∀ {a b : List Nat}, Rises l a → Rises l b → a.Perm b → a = b
  | [], b, _, _, h => (h.nil_eq)
  | x :: a, [], _, _, h => by have := h.length_eq; simp at this
  | x :: a, y :: b, ha, hb, h => by
    obtain ⟨a1, a2⟩ := List.pairwise_cons.1 ha
    obtain ⟨b1, b2⟩ := List.pairwise_cons.1 hb
    obtain rfl : x = y := by
      by_cases e : x = y
      · exact e
      · have hx : x ∈ b := by
          rcases List.mem_cons.1 (h.mem_iff.1 (List.mem_cons_self ..)) with h | h
          · exact absurd h e
          · exact h
        have hy : y ∈ a := by
          rcases List.mem_cons.1 (h.mem_iff.2 (List.mem_cons_self ..)) with h | h
          · exact absurd h.symm e
          · exact h
        have h1 := a1 y hy
        have h2 := b1 x hx
        have := cmpS_swap l x y
        omega
    rw [Rises.one a2 b2 (List.perm_cons x |>.1 h)]
end Go.Proofs.Ythkofhidhghmmaa
