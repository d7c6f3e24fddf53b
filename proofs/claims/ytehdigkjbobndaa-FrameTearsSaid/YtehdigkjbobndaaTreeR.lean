/- A whole struct loaded in a region that draws its order. Over any program. -/
import Derived.Test.YtehdigkjbobndaaPlM
namespace Go.Proofs.Ytehdigkjbobndaa
open Go.RowKit

theorem tree_loadrow {P : Program} {ops : Array Oper} {C : World → Prop} {Q : Act → World → Prop} {dst : Option Tmp} {ty : TypeId} {pos : String} {after : Array Edge} {guard : Option (Nat × Bool)}
    {t : TypeId} {x : Operand} {r : Tree Oper} {a : Act} {w : World} (g e : Nat) (cs : Array Value) (d : TypeDesc)
    (hg : Region.wanted { dst := dst, op := .load t x, type := ty, pos := pos, after := after, guard := guard } (yielded ops a.tmps) = true) (hx : a.eval x = .pointer (some ⟨g, 0, none⟩))
    (hu : P.underlying t = some d) (hd : (match d with | .struct _ | .array _ _ => true | _ => false) = true) (hi : (P.info? t).map (·.size) = some cs.size)
    (hv : ∀ w', C w' → Blk w' g e cs) (h : wpTree P ops C Q r (a.put dst (.agg cs)) w) :
    wpTree P ops C Q (.quiet { dst := dst, op := .load t x, type := ty, pos := pos, after := after, guard := guard } r) a w := by
  refine ⟨_, .inl ⟨hg, fun w' hw => ?_⟩, h⟩
  unfold execOp
  simp only [hx, Instr.loadAt, Instr.sureAddr, Sem.run_bind, Sem.run_pure, Result.andThen_ok, run_loadVar_row w' g e t cs (0, 0) d (hv w' hw).out hu hd hi]
end Go.Proofs.Ytehdigkjbobndaa
