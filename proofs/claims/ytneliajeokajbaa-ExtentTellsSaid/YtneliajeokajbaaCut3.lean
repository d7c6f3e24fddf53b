/- x[l:r:r] of a slice of whole numbers. Over any program. -/
import Derived.Test.YtneliajeokajbaaBase
namespace Go.Proofs.Ytneliajeokajbaa
open Go.RowKit
theorem wpl_slice3 {P : Program} {w : World} {ops : Array Oper} {rest : List Oper} {a : Act} {Q : Exit → Act → World → Prop} {dst : Option Tmp} {ty : TypeId} {pos : String} {after : Array Edge}
    {x lo hi mx : Operand} {t : TypeId} (e bytes : Nat) (k : IntKind) (A : Option Addr) (n c : Nat) (xs : List Int) (kl kh km : IntKind) (l r : Int) (ht : P.underlying t = some (.slice e)) (hinf : (P.info? e).map (fun i => (i.zero, i.size, i.bytes)) = some (some (.int k 0), 1, bytes))
    (hx : a.eval x = .slice A n c) (hrd : Rd w k A c xs) (hl : a.eval lo = .int kl l) (hr : a.eval hi = .int kh r) (hm : a.eval mx = .int km r) (h0 : 0 ≤ l) (h1 : l ≤ r) (h2 : r ≤ (xs.length : Int))
    (h : ∀ A', Rd w k A' (r.toNat - l.toNat) ((xs.take r.toNat).drop l.toNat) → wpList P ops Q rest (a.put dst (.slice A' (r.toNat - l.toNat) (r.toNat - l.toNat))) w) :
    wpList P ops Q ({ dst := dst, op := .slice t x (some lo) (some hi) (some mx), type := ty, pos := pos, after := after, guard := none } :: rest) a w := by
  refine wpList_plain rfl fun K hK => ?_
  have hle := hrd.le
  obtain ⟨i, hi, _, hs, _⟩ := info_parts hinf
  have he : P.elem t = e := by simp [Program.elem, ht]
  have hrun := run_slice_lhm (P := P) w t A n c (by rw [he]; exact ht) kl kh km l r r h0 h1 (Int.le_refl _) (by omega)
  have hsz : (sizeOf (P.elem t)).run P w = .ok 1 w := by rw [he]; simp [sizeOf, typeInfo, hi, hs]
  have hat := run_sliceAt_slice (P := P) w t (.slice A n c) (some (.int kl l)) (some (.int kh r)) (some (.int km r)) (by rw [he]; exact ht)
  unfold Oper.wp
  simp only [execOp, hx, hl, hr, hm, Option.map_some]
  simp [hat, hrun, hsz, Result.andThen, sliced]
  refine hK _ _ ?_
  have := hrd.cut l.toNat r.toNat r.toNat (by omega) (by omega) (by omega) (by omega)
  exact h _ this
end Go.Proofs.Ytneliajeokajbaa
