/- VarintPuts: the law's walk. -/
import Derived.Test.YtneliajeokajbaaVarKnown
namespace Go.Proofs.Ytneliajeokajbaa
open Go.RowKit
set_option maxRecDepth 100000

theorem refSame_eq {A B : Option Addr} {c d n m : Nat} {l k : List Int} {w : World} (h1 : Rd w .u8 A c l) (h2 : Rd w .u8 B d k) (hn : n = l.length) (hm : m = k.length) (h : l = k) :
    Calls Try.prog 64 #[.slice A n c, .slice B m d] w fun e w' => e = .returned (.bool true) ∧ Qt w w' := by
  have := refSame_n h1 h2 hn hm
  rwa [decide_eq_true h] at this
/-- The least of a length and a bound, as the walk reckons it. -/
theorem min_of {w : World} {k : IntKind} {A : Option Addr} {c : Nat} {l : List Int} (h : Rd w k A c l) (b : Nat) :
    ∃ m : Nat, (if (b : Int) < (l.length : Int) then (b : Int) else (l.length : Int)) = (m : Int) ∧ (m : Int) ≤ (c : Int) ∧ (m : Int) ≤ (b : Int) ∧ Hid (m = (l.take b).length) ∧ Rd w k A c (l.take b) :=
  ⟨min l.length b, by split <;> omega, by have := h.le; omega, by omega, Lib.hid (by rw [List.length_take, Nat.min_comm]), h.take b⟩
theorem own_empty (w : World) (e : Nat) (k : IntKind) : Own (w.alloc (.cells #[] e)) w.heap.size e k (.slice (some ⟨w.heap.size, 0, none⟩) 0 0) [] := Own.lit w _ _ _ [] (Nat.le_refl _) (by simp) (by simp) 0 rfl _ rfl

/-- The bytes of those numbers that have any. -/
def putAll (l : List Int) : List Int := ((l.filter (fun x => decide (0 ≤ x))).map (fun x => vput x.toNat)).flatten
theorem putAll_snoc (l : List Int) (x : Int) : putAll (l ++ [x]) = putAll l ++ (if 0 ≤ x then vput x.toNat else []) := by
  unfold putAll
  rw [List.filter_append, List.map_append, List.flatten_append]
  congr 1
  by_cases h : 0 ≤ x
  · simp [h]
  · simp [h]
theorem putAll_len (l : List Int) (h : ∀ x ∈ l, InK .i64 x) : (putAll l).length ≤ 10 * l.length := by
  have h1 := vflat_len (l.filter (fun x => decide (0 ≤ x))) (fun x hx => h x (List.mem_filter.1 hx).1)
  have h2 := List.length_filter_le (fun x => decide (0 ≤ x)) l
  unfold putAll
  omega
theorem putAll_all (l : List Int) (h : ∀ x ∈ l, 0 ≤ x) : putAll l = vputs l := by
  rw [vputs_some l h]
  unfold putAll
  rw [List.filter_eq_self.2 (fun x hx => by simpa using h x hx)]

end Go.Proofs.Ytneliajeokajbaa
