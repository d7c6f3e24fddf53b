/- Arrays: an element of an array by value; blocks of whole numbers. Over any program. -/
import Derived.Test.YtehdigkjbobndaaPiT
import Derived.Test.YtehdigkjbobndaaBase2
namespace Go.Proofs.Ytehdigkjbobndaa
open Go.RowKit

theorem run_isAgg_one {P : Program} {t : TypeId} (w : World) (ht : oneB P t = true) : (isAgg t).run P w = .ok false w := by
  unfold oneB at ht
  cases hu : P.underlying t with
  | none => rw [hu] at ht; cases ht
  | some d =>
    unfold isAgg
    rw [Sem.run_bind, run_underlying hu w]
    rw [hu] at ht
    cases d <;> simp_all
/-- An element of an array by value, its elements of one cell. -/
theorem run_index_agg {P : Program} (w : World) {t e : TypeId} {n : Nat} (cs : Array Value) (k : IntKind) (i : Nat) (v : Value) (ht : P.underlying t = some (.array n e)) (hs : (P.info? e).map (·.size) = some 1) (hi : i < n) (hv : cs[i]? = some v) (he : oneB P e = true) :
    (Instr.index t (.agg cs) (.int k i)).run P w = .ok v w := by
  obtain ⟨inf, hinf, hsz⟩ := Option.map_eq_some_iff.1 hs
  have hi' : (0 : Int) ≤ (i : Int) ∧ (i : Int) < (n : Int) := by omega
  simp [Instr.index, run_underlying ht, asIntOf, hi', sizeOf, typeInfo, hinf, hsz, part, run_isAgg_one w he, hv]
  omega

/-- Whole numbers as cells. -/
def cellsOf (k : IntKind) (l : List Int) : Array Value := (l.map (Value.int k)).toArray
theorem cellsOf_size (k : IntKind) (l : List Int) : (cellsOf k l).size = l.length := by simp [cellsOf]
theorem cellsOf_get (k : IntKind) (l : List Int) (i : Nat) (h : i < l.length) : (cellsOf k l)[i]? = some (.int k (l.getD i 0)) := by
  simp [cellsOf, List.getElem?_eq_getElem h, List.getD_eq_getElem?_getD]
theorem cellsOf_set (k : IntKind) (l : List Int) (i : Nat) (y : Int) : (cellsOf k l).setIfInBounds i (.int k y) = cellsOf k (l.set i y) := by
  simp [cellsOf, List.map_set]
theorem getD_set_self {α : Type} (l : List α) (i : Nat) (x d : α) (h : i < l.length) : (l.set i x).getD i d = x := by
  simp [List.getD_eq_getElem?_getD, h]
theorem getD_set_other {α : Type} (l : List α) (i j : Nat) (x d : α) (h : i ≠ j) : (l.set i x).getD j d = l.getD j d := by
  simp [List.getD_eq_getElem?_getD, h]
end Go.Proofs.Ytehdigkjbobndaa
