/- Shifts of words, as runs. Over any program. -/
import Derived.Test.YtneliajeokajbaaWBits
import Derived.Test.YtneliajeokajbaaPiT
namespace Go.Proofs.Ytneliajeokajbaa
open Go.RowKit

theorem run_shl_u64 {P : Program} (w : World) (t : TypeId) (a k : Nat) (z : Int) (hz : z = (k : Int)) (_ : k ≤ 64) : (binOp .shl t (.int .u64 (a : Int)) (.int .i64 z)).run P w = .ok (.int .u64 (shl64 a k : Nat)) w := by
  subst hz
  simp only [binOp]
  simp
  exact shl64_run a k
theorem run_shr_u64 {P : Program} (w : World) (t : TypeId) (a k : Nat) (z : Int) (hz : z = (k : Int)) (_ : k ≤ 64) : (binOp .shr t (.int .u64 (a : Int)) (.int .i64 z)).run P w = .ok (.int .u64 (shr64 a k : Nat)) w := by
  subst hz
  simp only [binOp]
  simp
  exact shr64_run a k
/-- A shift whose run is known. -/
theorem wpl_shl {P : Program} {w : World} {ops : Array Oper} {rest : List Oper} {a : Act} {Q : Exit → Act → World → Prop} {dst : Option Tmp} {ty : TypeId} {pos : String} {after : Array Edge}
    {t ty2 : TypeId} {x y : Operand} (n k : Nat) (z : Int) (hx : a.eval x = .int .u64 (n : Int)) (hy : a.eval y = .int .i64 z) (hz : z = (k : Int)) (hk : k ≤ 64)
    (h : wpList P ops Q rest (a.put dst (.int .u64 (shl64 n k : Nat))) w) :
    wpList P ops Q ({ dst := dst, op := .binOp .shl t x y ty2, type := ty, pos := pos, after := after, guard := none } :: rest) a w := by
  refine wpList_plain rfl fun K hK => ?_
  have hr := run_shl_u64 (P := P) w t n k z hz hk
  have he : (eqGuard .shl t x y (a.eval x) (a.eval y)).run P w = .ok () w := by simp [eqGuard]
  unfold Oper.wp
  simp only [execOp]
  rw [hx, hy] at he
  rw [hx, hy]
  simp only [Sem.run_bind, he, hr, Result.andThen]
  exact hK _ _ h
theorem wpl_shr {P : Program} {w : World} {ops : Array Oper} {rest : List Oper} {a : Act} {Q : Exit → Act → World → Prop} {dst : Option Tmp} {ty : TypeId} {pos : String} {after : Array Edge}
    {t ty2 : TypeId} {x y : Operand} (n k : Nat) (z : Int) (hx : a.eval x = .int .u64 (n : Int)) (hy : a.eval y = .int .i64 z) (hz : z = (k : Int)) (hk : k ≤ 64)
    (h : wpList P ops Q rest (a.put dst (.int .u64 (shr64 n k : Nat))) w) :
    wpList P ops Q ({ dst := dst, op := .binOp .shr t x y ty2, type := ty, pos := pos, after := after, guard := none } :: rest) a w := by
  refine wpList_plain rfl fun K hK => ?_
  have hr := run_shr_u64 (P := P) w t n k z hz hk
  have he : (eqGuard .shr t x y (a.eval x) (a.eval y)).run P w = .ok () w := by simp [eqGuard]
  unfold Oper.wp
  simp only [execOp]
  rw [hx, hy] at he
  rw [hx, hy]
  simp only [Sem.run_bind, he, hr, Result.andThen]
  exact hK _ _ h
/-- A load whose cell is known. -/
theorem wpl_load1 {P : Program} {w : World} {ops : Array Oper} {rest : List Oper} {a : Act} {Q : Exit → Act → World → Prop} {dst : Option Tmp} {ty : TypeId} {pos : String} {after : Array Edge}
    {t : TypeId} {x : Operand} (ad : Addr) (v : Value) (hx : a.eval x = .pointer (some ad)) (ht : oneB P t = true) (hv : w.cell? ad = some v)
    (h : wpList P ops Q rest (a.put dst v) w) :
    wpList P ops Q ({ dst := dst, op := .load t x, type := ty, pos := pos, after := after, guard := none } :: rest) a w := by
  refine wpList_plain rfl fun K hK => ?_
  have hr := run_load_one (P := P) (t := t) ht hv
  unfold Oper.wp
  simp only [execOp]
  rw [hx]
  simp only [Sem.run_bind, hr, Result.andThen]
  exact hK _ _ h
/-- An operation on two numbers whose run is known. -/
theorem wpl_bin {P : Program} {w : World} {ops : Array Oper} {rest : List Oper} {a : Act} {Q : Exit → Act → World → Prop} {dst : Option Tmp} {ty : TypeId} {pos : String} {after : Array Edge}
    {o : BinOp} {t ty2 : TypeId} {x y : Operand} (vx vy v : Value) (hx : a.eval x = vx) (hy : a.eval y = vy) (hn : (o matches .eql | .neq) = false) (hr : (binOp o t vx vy).run P w = .ok v w)
    (h : wpList P ops Q rest (a.put dst v) w) :
    wpList P ops Q ({ dst := dst, op := .binOp o t x y ty2, type := ty, pos := pos, after := after, guard := none } :: rest) a w := by
  refine wpList_plain rfl fun K hK => ?_
  have he : (eqGuard o t x y vx vy).run P w = .ok () w := by
    unfold eqGuard
    cases o <;> simp_all
  unfold Oper.wp
  simp only [execOp]
  rw [hx, hy]
  simp only [Sem.run_bind, he, hr, Result.andThen]
  exact hK _ _ h
/-- .. in a region that draws. -/
theorem tree_bin {P : Program} {ops : Array Oper} {C : World → Prop} {Q : Act → World → Prop} {dst : Option Tmp} {ty : TypeId} {pos : String} {after : Array Edge} {guard : Option (Nat × Bool)}
    {o : BinOp} {t ty2 : TypeId} {x y : Operand} {r : Tree Oper} {a : Act} {w : World} (vx vy v : Value)
    (hg : Region.wanted { dst := dst, op := .binOp o t x y ty2, type := ty, pos := pos, after := after, guard := guard } (yielded ops a.tmps) = true) (hx : a.eval x = vx) (hy : a.eval y = vy) (hn : (o matches .eql | .neq) = false)
    (hr : ∀ w, (binOp o t vx vy).run P w = .ok v w) (h : wpTree P ops C Q r (a.put dst v) w) :
    wpTree P ops C Q (.quiet { dst := dst, op := .binOp o t x y ty2, type := ty, pos := pos, after := after, guard := guard } r) a w := by
  refine ⟨v, .inl ⟨hg, fun w' _ => ?_⟩, h⟩
  have he : (eqGuard o t x y vx vy).run P w' = .ok () w' := by
    unfold eqGuard
    cases o <;> simp_all
  simp only [execOp]
  rw [hx, hy]
  simp only [Sem.run_bind, he, hr, Result.andThen]
  rfl
end Go.Proofs.Ytneliajeokajbaa
