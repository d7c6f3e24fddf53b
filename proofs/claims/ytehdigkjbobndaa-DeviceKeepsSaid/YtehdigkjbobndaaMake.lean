/- make of a slice of whole numbers: words over any program. -/
import Derived.Test.YtehdigkjbobndaaBase2
import Derived.Deep.OwnRows
import Derived.Laws.MakeOwn
import Derived.Laws.OwnMore
namespace Go.Proofs.Ytehdigkjbobndaa
open Go.RowKit

theorem made_cells (k : IntKind) (m : Nat) : madeCells #[Value.int k 0] m = ((List.replicate m (0 : Int)).map (Value.int k)).toArray := by
  refine Array.ext (by simp [madeCells]) fun i h1 h2 => by simp [madeCells, Nat.mod_one]
theorem InK.zero (k : IntKind) : InK k 0 := ⟨by cases k <;> rfl⟩
/-- make([]T, n): a slice of one's own. -/
theorem wpl_make {P : Program} {w : World} {ops : Array Oper} {rest : List Oper} {a : Act} {Q : Exit → Act → World → Prop} {dst : Option Tmp} {ty : TypeId} {pos : String} {after : Array Edge}
    {x y : Operand} {t : TypeId} (base e : Nat) (k : IntKind) (bytes : Nat) (ht : P.underlying t = some (.slice e)) (hi : (P.info? e).map (fun i => (i.zero, i.size, i.bytes)) = some (some (.int k 0), 1, bytes))
    (n : Nat) (hx : a.eval x = .int .i64 (n : Int)) (hy : a.eval y = .int .i64 (n : Int)) (hb : bytes * n ≤ 281474976710656) (hm : n ≤ 281474976710656) (hbase : base ≤ w.heap.size)
    (h : ∀ w', Own w' base e k (.slice (some ⟨w.heap.size, 0, none⟩) n n) (List.replicate n 0) → Up w w' → w'.heap.size = w.heap.size + 1 → wpList P ops Q rest (a.put dst (.slice (some ⟨w.heap.size, 0, none⟩) n n)) w') :
    wpList P ops Q ({ dst := dst, op := .makeSlice t x y, type := ty, pos := pos, after := after, guard := none } :: rest) a w := by
  refine wpList_plain rfl fun K hK => ?_
  have hr := run_make_row' (P := P) t e (.int k 0) bytes ht hi rfl .i64 .i64 n hb (by omega) w
  unfold Oper.wp
  simp only [execOp]
  rw [hx, hy]
  simp only [Sem.run_bind, hr, Result.andThen]
  refine hK _ _ (h _ ?_ ((Up.refl w).alloc _) (by simp))
  exact Own.lit w base e k (List.replicate n 0) hbase (by simp; omega) (fun x hx => by rw [List.eq_of_mem_replicate hx]; exact InK.zero k) n (by simp) _ (made_cells k n)
end Go.Proofs.Ytehdigkjbobndaa
