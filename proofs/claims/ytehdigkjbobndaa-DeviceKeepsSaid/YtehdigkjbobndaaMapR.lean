/- Maps keyed by whole numbers that a call made itself: delete, clear, and a range that may write other blocks. Over any program. -/
import Derived.Maps.RangeWalk
import Derived.Test.YtehdigkjbobndaaMapI
namespace Go.Proofs.Ytehdigkjbobndaa
open Go.RowKit Go.ChangeShapes Go.WideShapes Go.MapKept Go.ChangeMaps

theorem sameKey_int (x y : Int) : (Lit.int .i64 x).sameKey (.int .i64 y) = decide (x = y) := by
  by_cases h : x = y
  · subst h
    rw [WideAt.sameKey_self (show WideAt.IsKeyLit (.int .i64 x) from trivial)]
    simp
  · rw [decide_eq_false h]
    cases hs : (Lit.int .i64 x).sameKey (.int .i64 y)
    · rfl
    · have := WideAt.sameKey_eq hs
      injection this with _ e
      exact absurd e h
theorem wpl_mapDel {P : Program} (w : World) {ops : Array Oper} {rest : List Oper} {o : Oper} {a : Act} {Q : Exit → Act → World → Prop}
    (hg : o.guard = none) (m x : Operand) (t k : TypeId) (hop : o.op = Op.call { callee := Callee.builtin Builtin.delete, args := #[m, x], argTypes := #[t, k] }) (e : TypeId) (hk : P.underlying k = some (.int .i64)) (ht : P.underlying t = some (.map k e)) (b n : Nat) (f : Int → Option Value)
    (hm : a.eval m = .map (some b)) (hown : MapI P k w b n f) (key : Int) (hx : a.eval x = .int .i64 key) (hw : InK .i64 key)
    (hK : ∀ w', MapI P k w' b n (fun y => if y = key then none else f y) → UpX (fun c => c = b) w w' → wpList P ops Q rest (a.put o.dst (.tuple #[])) w') :
    wpList P ops Q (o :: rest) a w := by
  obtain ⟨D, h1, h2, h3⟩ := hown.out
  refine wpList_delete_own w hg m x t k hop e (Maps.int_keyed hk) ht keepV b n D hm h1 _ _ hx (Maps.keyOf_int_mk hk hw.wf) fun w' h4 h5 => ?_
  refine hK w' ⟨_, h4, h2.del _, fun y hy => ?_⟩ (grownBy_x h5.grown)
  by_cases e : y = key
  · subst e
    simp only [if_true]
    exact ⟨Maps.has_del_same, fun zd => Maps.atKey_del_same zd⟩
  · simp only [if_neg e]
    have hne : (Lit.int .i64 y) ≠ .int .i64 key := fun h => e (by injection h)
    exact ⟨(Maps.has_del_other hne).trans (h3 y hy).1, fun zd => (Maps.atKey_del_other hne zd).trans ((h3 y hy).2 zd)⟩
theorem wpl_mapClear {P : Program} (w : World) {ops : Array Oper} {rest : List Oper} {o : Oper} {a : Act} {Q : Exit → Act → World → Prop}
    (hg : o.guard = none) (m : Operand) (t k : TypeId) (hop : o.op = Op.call { callee := Callee.builtin Builtin.clear, args := #[m], argTypes := #[t] }) (e : TypeId) (ht : P.underlying t = some (.map k e)) (b n : Nat) (f : Int → Option Value)
    (hm : a.eval m = .map (some b)) (hown : MapI P k w b n f)
    (hK : ∀ w', MapI P k w' b 0 (fun _ => none) → UpX (fun c => c = b) w w' → wpList P ops Q rest (a.put o.dst (.tuple #[])) w') :
    wpList P ops Q (o :: rest) a w := by
  obtain ⟨D, ⟨es, clock, hb, F, hs, hD⟩, _⟩ := hown.out
  refine wpList_plain hg fun K' hK' => ?_
  have hr : (setObj b (.map #[] clock)).run P w = .ok () (setBlock w b (.map #[] clock)) := by
    simp only [setObj, Sem.run, hb]
    rfl
  unfold Oper.wp
  simp [execOp, hop, resolve, invoke, builtin, hm, Builtin.clear_, run_underlying ht, MapKept.run_getObj_map hb, hr, Result.andThen]
  refine hK' _ _ (hK _ ⟨.map [], ⟨#[], clock, heap_setBlock_same hb _, ⟨by simp, stamped_empty clock, by simp⟩, Nat.le_refl _, rfl⟩, ⟨[], rfl⟩, fun _ _ => ⟨rfl, fun _ => rfl⟩⟩ ?_)
  exact grownBy_x (World.mapTurned.grown ⟨es, clock, #[], clock, hb, rfl⟩)

/-- A range over such a map, under way: L: is the entry still to come? -/
structure RngI (P : Program) (k : TypeId) (w : World) (b r n : Nat) (f : Int → Option Value) (L : Int → Bool) (cnt : Nat) : Prop where mk ::
  out : ∃ (D : DataW Value) (left : Lit → Bool), w.ranges P k keepV b r n D left cnt ∧ Maps.IsMap D ∧ (∀ x, InK .i64 x → Maps.has D (.int .i64 x) = (f x).isSome ∧ ∀ zd, D.atKey (.int .i64 x) zd = match f x with | some v => .held v | none => zd) ∧ ∀ x, InK .i64 x → left (.int .i64 x) = L x
section
variable {P : Program} {k : TypeId} {w : World} {b r n cnt : Nat} {f : Int → Option Value} {L : Int → Bool}
theorem RngI.left_eq (h : RngI P k w b r n f L cnt) : w.rangeLeft b r = cnt := by
  obtain ⟨D, left, h1, _⟩ := h.out
  exact h1.left_eq
theorem RngI.map (h : RngI P k w b r n f L cnt) : MapI P k w b n f := by
  obtain ⟨D, left, h1, h2, h3, _⟩ := h.out
  exact ⟨D, h1.owns, h2, h3⟩
theorem RngI.ne (h : RngI P k w b r n f L cnt) : r ≠ b := by
  obtain ⟨D, left, h1, _⟩ := h.out
  exact h1.ne
theorem RngI.lt (h : RngI P k w b r n f L cnt) : r < w.heap.size := by
  obtain ⟨D, left, h1, _⟩ := h.out
  exact h1.lt
theorem RngI.upx {w' : World} (h : RngI P k w b r n f L cnt) {F : Nat → Prop} (hu : UpX F w w') (hb : ¬ F b) (hr : ¬ F r) : RngI P k w' b r n f L cnt := by
  obtain ⟨D, left, ⟨es, clock, since, seen, c0, g1, g2, g3, g4, g5, g6⟩, h2⟩ := h.out
  exact ⟨D, left, ⟨es, clock, since, seen, c0, hu.heap g1 hb, g2, g3, g4, hu.heap g5 hr, g6⟩, h2⟩
end
theorem wpl_mapRange {P : Program} (w : World) {ops : Array Oper} {rest : List Oper} {o : Oper} {a : Act} {Q : Exit → Act → World → Prop}
    (hg : o.guard = none) (m : Operand) (t : TypeId) (hop : o.op = Op.range t m) (k e : TypeId) (hk : P.underlying k = some (.int .i64)) (ht : P.underlying t = some (.map k e)) (b n : Nat) (f : Int → Option Value)
    (hm : a.eval m = .map (some b)) (hown : MapI P k w b n f)
    (hK : ∀ w' cnt, RngI P k w' b w.heap.size n f (fun x => (f x).isSome) cnt → Up w w' → w'.heap.size = w.heap.size + 1 → wpList P ops Q rest (a.put o.dst (.pointer (some ⟨w.heap.size, 0, none⟩))) w') :
    wpList P ops Q (o :: rest) a w := by
  obtain ⟨D, h1, h2, h3⟩ := hown.out
  refine wpList_range_own w hg m t hop k e (Maps.int_keyed hk) ht keepV b n D hm h1 fun w' h4 h5 h6 => ?_
  refine hK w' _ ⟨D, _, h4, h2, h3, fun x hx => (h3 x hx).1⟩ ?_ h6
  exact ⟨h5.os, h5.tape, h5.output, h5.size, fun j hj => h5.block j hj (by simp)⟩
theorem wpl_mapNext {P : Program} (w : World) {ops : Array Oper} {rest : List Oper} {o : Oper} {a : Act} {Q : Exit → Act → World → Prop}
    (hg : o.guard = none) (it : Operand) (hop : o.op = Op.next it false) (k : TypeId) (hk : P.underlying k = some (.int .i64)) (b r n : Nat) (f : Int → Option Value) (L : Int → Bool) (cnt : Nat)
    (hit : a.eval it = .pointer (some ⟨r, 0, none⟩)) (h : RngI P k w b r n f L cnt)
    (hDone : cnt = 0 → (∀ x, InK .i64 x → L x = false) → wpList P ops Q rest (a.put o.dst (.tuple #[.bool false])) w)
    (hMore : ∀ (x : Int) (v : Value) (w' : World) (cnt' : Nat), InK .i64 x → L x = true → f x = some v → RngI P k w' b r n f (fun y => L y && !decide (y = x)) cnt' → cnt' < cnt →
      UpX (fun c => c = r) w w' → w'.heap.size = w.heap.size → (Instr.entry (.pointer (some ⟨r, 0, none⟩))).run P w' = .ok (.tuple #[.int .i64 x, v]) w' → wpList P ops Q rest (a.put o.dst (.tuple #[.bool true, .int .i64 x, v])) w') :
    wpList P ops Q (o :: rest) a w := by
  obtain ⟨D, left, h1, h2, h3, h4⟩ := h.out
  refine wpList_next_ranges (α := Int) (β := Value) w hg it hop k (Maps.int_keyed hk) keepV (Value.int .i64) id (fun key kl hkey => by obtain ⟨x, rfl, _⟩ := Maps.keyOf_int_inv hk hkey; exact ⟨x, rfl⟩) (fun v y hv => ⟨v, rfl⟩)
    b r n D left cnt hit h1 (fun hc hl => hDone hc fun x hx => by rw [← h4 x hx]; exact hl _) fun x v kl y w' cnt' hkey hl hv hat hrg hlt hgr hsz hen => ?_
  obtain ⟨x', ex, rfl, hwx⟩ := Maps.keyOf_int_inv hk hkey
  cases ex
  have hx : InK .i64 x := ⟨hwx⟩
  have hfx : f x = some v := by
    have g := (h3 x hx).2 (.lit (.int .i64 0))
    rw [hat] at g
    have hy : y.1 = .held v := by
      have : keepV v = some y := hv
      unfold keepV at this
      rw [← Option.some.inj this]
    rw [hy] at g
    cases hf : f x with
    | none => rw [hf] at g; cases g
    | some u =>
      rw [hf] at g
      have : DataW.held v = DataW.held u := g
      injection this with e
      rw [e]
  refine hMore x v w' cnt' hx (by rw [← h4 x hx]; exact hl) hfx ⟨D, _, hrg, h2, h3, fun z hz => ?_⟩ hlt (grownBy_x hgr) hsz hen
  show (left (.int .i64 z) && !(Lit.int .i64 z).sameKey (.int .i64 x)) = _
  rw [sameKey_int, h4 z hz]
end Go.Proofs.Ytehdigkjbobndaa
