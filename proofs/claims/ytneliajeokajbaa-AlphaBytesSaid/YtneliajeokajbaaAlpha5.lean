/- Layer 14: a text's documents: plain. -/
import Derived.Test.YtneliajeokajbaaAlpha4
import Derived.Test.YtneliajeokajbaaOwnL
namespace Go.Proofs.Ytneliajeokajbaa
open Go.RowKit
set_option maxRecDepth 100000

/-- The documents of a text without its end: those that are closed, and the one that is open. -/
def dstep : List Int → List (List Int) → List Int → Option (List (List Int) × List Int)
  | [], acc, doc => some (acc, doc)
  | x :: t, acc, doc => if x = 1 then dstep t (acc ++ [doc]) [] else if x < 2 ∨ 258 ≤ x then none else dstep t acc (doc ++ [x - 2])
theorem dstep_snoc (l : List Int) (x : Int) (acc : List (List Int)) (doc : List Int) :
    dstep (l ++ [x]) acc doc = (dstep l acc doc).bind fun r => if x = 1 then some (r.1 ++ [r.2], []) else if x < 2 ∨ 258 ≤ x then none else some (r.1, r.2 ++ [x - 2]) := by
  induction l generalizing acc doc with
  | nil => simp [dstep]
  | cons y t ih =>
    rw [List.cons_append, dstep, dstep]
    split
    · exact ih _ _
    · split
      · rfl
      · exact ih _ _
def closed : Option (List (List Int) × List Int) → Option (List (List Int))
  | some (acc, []) => some acc
  | _ => none
/-- The open document is empty just if there is nothing, or the last symbol parts documents. -/
theorem dstep_open (l : List Int) (r : List (List Int) × List Int) (h : dstep l [] [] = some r) : r.2 = [] ↔ (l = [] ∨ l.getD (l.length - 1) 0 = 1) := by
  rcases List.eq_nil_or_concat l with rfl | ⟨t, x, rfl⟩
  · simp [dstep] at h
    subst h
    simp
  · rw [List.concat_eq_append, dstep_snoc] at h
    cases hd : dstep t [] [] with
    | none => rw [hd] at h; simp at h
    | some q =>
      rw [hd] at h
      simp only [Option.bind_some] at h
      have hg : (t.concat x).getD ((t.concat x).length - 1) 0 = x := by simp
      rw [hg]
      by_cases h1 : x = 1
      · rw [if_pos h1] at h
        simp only [Option.some.injEq] at h
        subst h
        simp [h1]
      · rw [if_neg h1] at h
        split at h
        · simp at h
        · simp only [Option.some.injEq] at h
          subst h
          simp [h1]
theorem dstep_none (l m : List Int) (acc : List (List Int)) (doc : List Int) (h : dstep l acc doc = none) : dstep (l ++ m) acc doc = none := by
  induction l generalizing acc doc with
  | nil => simp [dstep] at h
  | cons y t ih =>
    rw [List.cons_append, dstep]
    rw [dstep] at h
    split
    · rw [if_pos ‹_›] at h; exact ih _ _ h
    · rw [if_neg ‹_›] at h
      split
      · rfl
      · rw [if_neg ‹_›] at h; exact ih _ _ h

/-- The document's way. -/
def rdocs : List Int → List (List Int) → List Int → Option (List (List Int))
  | [], _, _ => none
  | x :: t, acc, doc => if x = 0 then (if t = [] ∧ doc = [] then some acc else none) else if x = 1 then rdocs t (acc ++ [doc]) [] else if 2 ≤ x ∧ x ≤ 257 then rdocs t acc (doc ++ [x - 2]) else none
theorem rdocs_snoc (t : List Int) (z : Int) (acc : List (List Int)) (doc : List Int) :
    rdocs (t ++ [z]) acc doc = if z = 0 then closed (dstep t acc doc) else none := by
  induction t generalizing acc doc with
  | nil =>
    simp only [List.nil_append, rdocs, dstep]
    by_cases hz : z = 0
    · cases doc <;> simp [hz, closed]
    · rw [if_neg hz, if_neg hz]
      split <;> (try split) <;> rfl
  | cons y t ih =>
    rw [List.cons_append, rdocs, dstep]
    by_cases h0 : y = 0
    · subst h0
      simp [closed]
    · rw [if_neg h0]
      by_cases h1 : y = 1
      · rw [if_pos h1, if_pos h1]; exact ih _ _
      · rw [if_neg h1, if_neg h1]
        by_cases h2 : 2 ≤ y ∧ y ≤ 257
        · rw [if_pos h2, if_neg (show ¬ (y < 2 ∨ 258 ≤ y) by omega)]; exact ih _ _
        · rw [if_neg h2, if_pos (show y < 2 ∨ 258 ≤ y by omega)]
          simp [closed]
/-- What a text's documents are, if it is a text's. -/
def docsOf (text : List Int) : Option (List (List Int)) := rdocs text [] []
theorem docsOf_snoc (t : List Int) (z : Int) : docsOf (t ++ [z]) = if z = 0 then closed (dstep t [] []) else none := rdocs_snoc t z [] []
theorem docsOf_nil : docsOf [] = none := rfl

theorem dstep_pattern (b t : List Int) (hb : ∀ x ∈ b, InK .u8 x) (acc : List (List Int)) (doc : List Int) : dstep (pattern b ++ t) acc doc = dstep t acc (doc ++ b) := by
  induction b generalizing doc with
  | nil => simp [pattern]
  | cons x b ih =>
    have hx := (hb x (by simp)).u8
    have e : pattern (x :: b) ++ t = (2 + x) :: (pattern b ++ t) := by simp [pattern]
    rw [e, dstep, if_neg (by omega), if_neg (by omega), ih (fun y hy => hb y (by simp [hy]))]
    congr 1
    rw [show 2 + x - 2 = x by omega]
    simp
theorem dstep_text (ds : List (List Int)) (hd : ∀ d ∈ ds, ∀ x ∈ d, InK .u8 x) (acc : List (List Int)) : dstep (textOf ds) acc [] = some (acc ++ ds, []) := by
  induction ds generalizing acc with
  | nil => simp [textOf, dstep]
  | cons d ds ih =>
    have e : textOf (d :: ds) = pattern d ++ (1 :: textOf ds) := by simp [textOf]
    rw [e, dstep_pattern d _ (hd d (by simp))]
    simp only [dstep, if_true, ih (fun d' h => hd d' (by simp [h]))]
    simp
theorem docsOf_text (ds : List (List Int)) (hd : ∀ d ∈ ds, ∀ x ∈ d, InK .u8 x) : docsOf (textOf ds ++ [0]) = some ds := by
  rw [docsOf_snoc, if_pos rfl, dstep_text ds hd]
  simp [closed]
theorem dstep_back (l : List Int) (acc acc' : List (List Int)) (doc doc' : List Int) (h : dstep l acc doc = some (acc', doc')) : textOf acc ++ pattern doc ++ l = textOf acc' ++ pattern doc' := by
  induction l generalizing acc doc with
  | nil => simp [dstep] at h; simp [h]
  | cons x t ih =>
    rw [dstep] at h
    split at h
    · rename_i hx
      have := ih _ _ h
      rw [textOf_snoc] at this
      rw [← this, hx]
      simp [pattern]
    · split at h
      · cases h
      · have := ih _ _ h
        rw [← this]
        simp only [pattern, List.map_append, List.map_cons, List.map_nil, List.append_assoc, List.cons_append, List.nil_append]
        rw [show 2 + (x - 2) = x by omega]
theorem textOf_docs (text : List Int) (ds : List (List Int)) (h : docsOf text = some ds) : textOf ds ++ [0] = text := by
  rcases List.eq_nil_or_concat text with rfl | ⟨t, z, rfl⟩
  · simp [docsOf_nil] at h
  · rw [List.concat_eq_append] at h ⊢
    rw [docsOf_snoc] at h
    split at h
    · rename_i hz
      unfold closed at h
      split at h
      · rename_i acc he
        have := dstep_back _ _ _ _ _ he
        simp only [Option.some.injEq] at h
        subst h
        rw [hz]
        congr 1
        simpa [textOf, pattern] using this.symm
      · cases h
    · cases h
end Go.Proofs.Ytneliajeokajbaa
