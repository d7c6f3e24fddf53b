/- Maps keyed by whole numbers that a call made itself: whatever their elements are. Over any program. -/
import Derived.Maps.OwnSet
import Derived.Test.YtehdigkjbobndaaBase
namespace Go.Proofs.Ytehdigkjbobndaa
open Go.RowKit

/-- An element is kept as it is. -/
def keepV (v : Value) : Option (DataW Value × List MemPlace) := some (.held v, [])
/-- Block b is a map of at most n entries. -/
structure MapI (P : Program) (k : TypeId) (w : World) (b n : Nat) (f : Int → Option Value) : Prop where mk ::
  out : ∃ D : DataW Value, w.ownsMap P k keepV b n D ∧ Maps.IsMap D ∧ ∀ x, InK .i64 x → Maps.has D (.int .i64 x) = (f x).isSome ∧ ∀ zd, D.atKey (.int .i64 x) zd = match f x with | some v => .held v | none => zd
theorem MapI.lt {P : Program} {k : TypeId} {w : World} {b n : Nat} {f : Int → Option Value} (h : MapI P k w b n f) : b < w.heap.size := by
  obtain ⟨D, h1, _⟩ := h.out
  exact h1.lt
theorem MapI.upx {P : Program} {k : TypeId} {w w' : World} {b n : Nat} {f : Int → Option Value} (h : MapI P k w b n f) {F : Nat → Prop} (hu : UpX F w w') (hF : ¬ F b) : MapI P k w' b n f := by
  obtain ⟨D, ⟨es, clock, hb, r⟩, h2⟩ := h.out
  exact ⟨D, ⟨es, clock, hu.heap hb hF, r⟩, h2⟩
theorem MapI.up {P : Program} {k : TypeId} {w w' : World} {b n : Nat} {f : Int → Option Value} (h : MapI P k w b n f) (hu : Up w w') : MapI P k w' b n f := h.upx (hu.x fun _ => False) fun h => h
theorem MapI.mono {P : Program} {k : TypeId} {w : World} {b n n' : Nat} {f : Int → Option Value} (h : MapI P k w b n f) (hn : n ≤ n') : MapI P k w b n' f := by
  obtain ⟨D, h1, h2⟩ := h.out
  exact ⟨D, h1.mono hn, h2⟩
theorem MapI.congr {P : Program} {k : TypeId} {w : World} {b n : Nat} {f g : Int → Option Value} (h : MapI P k w b n f) (hg : ∀ y, f y = g y) : MapI P k w b n g := by
  have : f = g := funext hg
  subst this
  exact h
theorem MapI.made (P : Program) (k : TypeId) (w : World) : MapI P k (w.alloc (.map #[] 0)) w.heap.size 0 fun _ => none :=
  ⟨.map [], World.ownsMap_made w P k keepV, ⟨[], rfl⟩, fun _ _ => ⟨rfl, fun _ => rfl⟩⟩
theorem grownBy_x {W W' : World} {b : Nat} (hg : W.grownBy W' (some b)) : UpX (fun c => c = b) W W' := ⟨hg.os, hg.tape, hg.output, hg.size, fun k hk hF => hg.block k hk fun e => hF (Option.some.inj e)⟩

theorem wpl_mapPut {P : Program} (w : World) {ops : Array Oper} {rest : List Oper} {o : Oper} {a : Act} {Q : Exit → Act → World → Prop}
    (hg : o.guard = none) (m x v : Operand) (t : TypeId) (hop : o.op = Op.mapUpdate t m x v) (k e : TypeId) (hk : P.underlying k = some (.int .i64)) (ht : P.underlying t = some (.map k e)) (b n : Nat) (f : Int → Option Value)
    (hm : a.eval m = .map (some b)) (hown : MapI P k w b n f) (hn : n < maxLen) (key : Int) (val : Value) (hx : a.eval x = .int .i64 key) (hw : InK .i64 key) (hv : a.eval v = val)
    (hK : ∀ w', MapI P k w' b (n + 1) (fun y => if y = key then some val else f y) → UpX (fun c => c = b) w w' → wpList P ops Q rest (a.put o.dst undef) w') :
    wpList P ops Q (o :: rest) a w := by
  obtain ⟨D, h1, h2, h3⟩ := hown.out
  refine wpList_mapUpdate_own w hg m x v t hop k e (Maps.int_keyed hk) ht keepV b n D hm h1 hn _ val _ hx hv (Maps.keyOf_int_mk hk hw.wf) _ _ rfl fun w' h4 h5 => ?_
  refine hK w' ⟨_, h4, h2.put _ _, fun y hy => ?_⟩ (grownBy_x h5)
  by_cases e : y = key
  · subst e
    simp only [if_true]
    exact ⟨Maps.has_put_same h2 (show WideAt.IsKeyLit (.int .i64 y) from trivial) _, fun zd => Maps.atKey_put_same h2 (show WideAt.IsKeyLit (.int .i64 y) from trivial) _ zd⟩
  · simp only [if_neg e]
    have hne : (Lit.int .i64 y) ≠ .int .i64 key := fun h => e (by injection h)
    exact ⟨(Maps.has_put_other hne _).trans (h3 y hy).1, fun zd => (Maps.atKey_put_other hne _ zd).trans ((h3 y hy).2 zd)⟩

theorem MapI.look {P : Program} {k : TypeId} {w : World} {b n : Nat} {f : Int → Option Value} (h : MapI P k w b n f) {t e : TypeId} (hk : P.underlying k = some (.int .i64)) (ht : P.underlying t = some (.map k e)) {z : Value} (hz : (zeroValue e).run P w = .ok z w) (key : Int) (hw : InK .i64 key) :
    (Instr.lookup t (.map (some b)) (.int .i64 key) true).run P w = .ok (.tuple #[(f key).getD z, .bool (f key).isSome]) w ∧ (Instr.lookup t (.map (some b)) (.int .i64 key) false).run P w = .ok ((f key).getD z) w := by
  obtain ⟨D, h1, h2, h3⟩ := h.out
  obtain ⟨v, ps, hr, hv⟩ := h1.look_ok (Maps.int_keyed hk) ht hz (zd := .held z) (zp := []) rfl (Maps.keyOf_int_mk hk hw.wf)
  obtain ⟨v', ps', hr', hv'⟩ := h1.lookup (Maps.int_keyed hk) ht hz (zd := .held z) (zp := []) rfl (Maps.keyOf_int_mk hk hw.wf)
  obtain ⟨g1, g2⟩ := h3 key hw
  have aux : ∀ u qs, keepV u = some (D.atKey (.int .i64 key) (.held z), qs) → u = (f key).getD z := fun u qs hu => by
    rw [g2] at hu
    unfold keepV at hu
    cases hf : f key with
    | none => rw [hf] at hu; simp at hu; simpa using hu.1
    | some y => rw [hf] at hu; simp at hu; simpa using hu.1
  rw [hr, hr', aux v ps hv, aux v' ps' hv', g1]
  exact ⟨rfl, rfl⟩
end Go.Proofs.Ytehdigkjbobndaa
