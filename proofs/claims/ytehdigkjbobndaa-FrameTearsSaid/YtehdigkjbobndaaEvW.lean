/- Words for the pure statements: loops that count, sums that do not wrap. -/
import Derived.Test.YtehdigkjbobndaaWMore
namespace Go.Proofs.Ytehdigkjbobndaa
open Go.RowKit Go.Proofs.YtehdigkjbobndaaW.PrintWords Go.Proofs.YtehdigkjbobndaaW.PrintMore

theorem w_id {x : Int} (h0 : -9223372036854775808 ≤ x) (h1 : x ≤ 9223372036854775807) : wrap64 x = x := by unfold wrap64; omega
theorem w_succ (i : Nat) (h : i < 4611686018427387904) : wrap64 ((i : Int) + 1) = ((i + 1 : Nat) : Int) := by rw [w_id] <;> omega
theorem rd_nat (l : List Int) (i : Nat) : rd l (i : Int) = l.getD i 0 := rfl
theorem getD_lt {α : Type} (l : List α) (i : Nat) (d : α) (h : i < l.length) : l.getD i d = l[i] := by simp [List.getD_eq_getElem?_getD, h]
theorem getD_mem {α : Type} (l : List α) (i : Nat) (d : α) (h : i < l.length) : l.getD i d ∈ l := by rw [getD_lt l i d h]; exact List.getElem_mem _
theorem drop_cons {α : Type} (l : List α) (i : Nat) (d : α) (h : i < l.length) : l.drop i = l.getD i d :: l.drop (i + 1) := by rw [getD_lt l i d h, List.drop_eq_getElem_cons h]
theorem mn_len (n : Nat) (m : Nat) : (mn (n : Int) (m : Int)).toNat = min n m := by unfold mn; split <;> omega
theorem mn_nonneg (n m : Nat) : 0 ≤ mn (n : Int) (m : Int) := by unfold mn; split <;> omega
theorem mn_le (n m : Nat) : mn (n : Int) (m : Int) ≤ (n : Int) := by unfold mn; split <;> omega
theorem take_mn (l : List Int) (m : Nat) : l.take (mn (l.length : Int) (m : Int)).toNat = l.take m := by
  rw [mn_len]
  rcases Nat.le_total l.length m with h | h
  · rw [Nat.min_eq_left h, List.take_length, List.take_of_length_le h]
  · rw [Nat.min_eq_right h]
/-- A loop in one step. -/
theorem Ev_to {α : Type} {g f : Nat → Option α} {r : α} (k : Ev f r) (h : ∀ k, g (k + 1) = f k) : Ev g r := Ev.step h k
theorem Ev_now {α : Type} {g : Nat → Option α} {r : α} (h : ∀ k, g (k + 1) = some r) : Ev g r := Ev.step h (Ev.now r)
theorem Ev_eq {α : Type} {g : Nat → Option α} {r : α} (h : ∀ k, g k = some r) : Ev g r := Ev.congr h (Ev.now r)
theorem Ev_as {α : Type} {g f : Nat → Option α} {r : α} (k : Ev f r) (h : ∀ k, g k = f k) : Ev g r := Ev.congr h k
end Go.Proofs.Ytehdigkjbobndaa
