/- Several texts in one: DevP, MapI, MapR, DevB, Dev, DevM, DevW, DevR, DevL, DevS, DevK. -/
import Derived.Test.YtehdigkjbobndaaPlM
import Derived.Maps.OwnSet
import Derived.Test.YtehdigkjbobndaaBase
import Derived.Maps.RangeWalk
import Derived.Test.YtehdigkjbobndaaCrcM2
import Derived.Laws.LoneSync
/- Layer 3, plain: a device as lists; what a crash keeps. No program in sight. -/
namespace Go.Proofs.Ytehdigkjbobndaa

/-- What a crash keeps of a page: the page, how many versions, how much of the next one. -/
structure KeepS where
  page : Int
  n : Int
  part : Int
/-- How many versions of so many survive. -/
def kept (k : KeepS) (len : Nat) : Nat := min (max k.n 0).toNat len
/-- What a page holds behind a crash: p was laid, l waits. -/
def crashPage (k : KeepS) (l : List (List Int)) (p : List Int) : List Int :=
  let n := kept k l.length
  let q := if 0 < n then l.getD (n - 1) [] else p
  if n < l.length then laid q 0 ((l.getD n []).take (min (max k.part 0) 256).toNat) else q
/-- Pages, what waits for each, how many versions have survived. -/
structure CrS where
  pg : List (List Int)
  wt : Int → List (List Int)
  n : Nat
def crashOne (s : CrS) (k : KeepS) : CrS :=
  if s.wt k.page = [] then s else
  ⟨s.pg.set k.page.toNat (crashPage k (s.wt k.page) (s.pg.getD k.page.toNat [])), fun q => if q = k.page then [] else s.wt q, s.n + kept k (s.wt k.page).length⟩
def crashAll (ks : List KeepS) (s : CrS) : CrS := ks.foldl crashOne s

/-- The first that speaks of a page. -/
def keepOf (ks : List KeepS) (p : Int) : Option KeepS := ks.find? fun k => decide (k.page = p)
/-- What a page holds, and how many of its versions survive: by the first that speaks of it. -/
def crashAt (ks : List KeepS) (p : Int) (l : List (List Int)) (q : List Int) : List Int := match keepOf ks p with | none => q | some k => if l = [] then q else crashPage k l q
def keptAt (ks : List KeepS) (p : Int) (l : List (List Int)) : Nat := match keepOf ks p with | none => 0 | some k => kept k l.length
def sumTo (f : Nat → Nat) : Nat → Nat
  | 0 => 0
  | n + 1 => sumTo f n + f n
theorem sumTo_congr {f g : Nat → Nat} : ∀ {n : Nat}, (∀ i, i < n → f i = g i) → sumTo f n = sumTo g n
  | 0, _ => rfl
  | n + 1, h => by rw [sumTo, sumTo, sumTo_congr (fun i hi => h i (by omega)), h n (by omega)]
theorem sumTo_one {f g : Nat → Nat} {p d : Nat} : ∀ {n : Nat}, p < n → (∀ i, i < n → i ≠ p → f i = g i) → f p = g p + d → sumTo f n = sumTo g n + d
  | 0, h, _, _ => by omega
  | n + 1, h, h1, h2 => by
    rw [sumTo, sumTo]
    by_cases e : p = n
    · subst e
      rw [sumTo_congr fun i hi => h1 i (by omega) (by omega), h2]
      omega
    · rw [sumTo_one (show p < n by omega) (fun i hi => h1 i (by omega)) h2, h1 n (by omega) (fun e' => e e'.symm)]
      omega
theorem sumTo_zero {f : Nat → Nat} : ∀ {n : Nat}, (∀ i, i < n → f i = 0) → sumTo f n = 0
  | 0, _ => rfl
  | n + 1, h => by rw [sumTo, sumTo_zero (fun i hi => h i (by omega)), h n (by omega)]

/-- Only pages that are there have versions. -/
def WtIn (s : CrS) : Prop := ∀ p, s.wt p ≠ [] → 0 ≤ p ∧ p < (s.pg.length : Int)
theorem crashOne_in {s : CrS} (h : WtIn s) (k : KeepS) : WtIn (crashOne s k) := by
  unfold crashOne
  split
  · exact h
  · intro p hp
    simp only at hp ⊢
    split at hp
    · exact absurd rfl hp
    · rw [List.length_set]; exact h p hp
theorem crashOne_len (s : CrS) (k : KeepS) : (crashOne s k).pg.length = s.pg.length := by
  unfold crashOne
  split
  · rfl
  · simp
theorem crashAll_len : ∀ (ks : List KeepS) (s : CrS), (crashAll ks s).pg.length = s.pg.length
  | [], _ => rfl
  | k :: ks, s => by
    show (crashAll ks (crashOne s k)).pg.length = _
    rw [crashAll_len ks, crashOne_len]
theorem crashAll_spec : ∀ (ks : List KeepS) (s : CrS), WtIn s →
    (∀ p : Nat, p < s.pg.length → (crashAll ks s).pg.getD p [] = crashAt ks p (s.wt p) (s.pg.getD p [])) ∧
    (crashAll ks s).n = s.n + sumTo (fun p => keptAt ks p (s.wt p)) s.pg.length
  | [], s, _ => ⟨fun p _ => rfl, by
      have h0 : sumTo (fun p => keptAt [] p (s.wt p)) s.pg.length = 0 := sumTo_zero fun i _ => rfl
      rw [h0]
      rfl⟩
  | k :: ks, s, h => by
    have hd := crashOne_in h k
    obtain ⟨h1, h2⟩ := crashAll_spec ks (crashOne s k) hd
    rw [crashOne_len] at h1 h2
    by_cases he : s.wt k.page = []
    · have e1 : crashOne s k = s := by unfold crashOne; rw [if_pos he]
      rw [e1] at h1 h2
      have aux : ∀ p : Int, (keepOf (k :: ks) p = keepOf ks p) ∨ s.wt p = [] := fun p => by
        by_cases hp : k.page = p
        · exact .inr (hp ▸ he)
        · refine .inl ?_
          unfold keepOf
          rw [List.find?_cons_of_neg (by simpa using hp)]
      have hk0 : ∀ q : KeepS, kept q 0 = 0 := fun q => by unfold kept; omega
      refine ⟨fun p hp => ?_, ?_⟩
      · show (crashAll ks (crashOne s k)).pg.getD p [] = _
        rw [e1, h1 p hp]
        rcases aux p with h3 | h3
        · unfold crashAt; rw [h3]
        · rw [h3]
          have : ∀ ks' : List KeepS, crashAt ks' p [] (s.pg.getD p []) = s.pg.getD p [] := fun ks' => by unfold crashAt; split <;> simp
          rw [this, this]
      · show (crashAll ks (crashOne s k)).n = _
        rw [e1, h2]
        congr 1
        refine sumTo_congr fun p _ => ?_
        rcases aux p with h3 | h3
        · unfold keptAt; rw [h3]
        · rw [h3]
          have : ∀ ks' : List KeepS, keptAt ks' p [] = 0 := fun ks' => by unfold keptAt; split <;> simp [hk0]
          rw [this, this]
    · obtain ⟨hp0, hp1⟩ := h _ he
      obtain ⟨q, hq⟩ := Int.eq_ofNat_of_zero_le hp0
      have hql : q < s.pg.length := by omega
      have e1 : crashOne s k = ⟨s.pg.set q (crashPage k (s.wt q) (s.pg.getD q [])), fun p => if p = k.page then [] else s.wt p, s.n + kept k (s.wt q).length⟩ := by
        unfold crashOne
        rw [if_neg he, hq]
        simp
      rw [hq] at he
      have hkq : keepOf (k :: ks) (q : Int) = some k := by unfold keepOf; rw [List.find?_cons_of_pos (by simp [hq])]
      have hko : ∀ p : Nat, p ≠ q → keepOf (k :: ks) (p : Int) = keepOf ks p := fun p hp => by
        unfold keepOf
        rw [List.find?_cons_of_neg (by rw [hq]; simp; omega)]
      have hk0 : ∀ q : KeepS, kept q 0 = 0 := fun q => by unfold kept; omega
      refine ⟨fun p hp => ?_, ?_⟩
      · show (crashAll ks (crashOne s k)).pg.getD p [] = _
        rw [h1 p hp, e1]
        simp only
        by_cases hpq : p = q
        · subst hpq
          rw [hq, if_pos rfl]
          have h3 : crashAt (k :: ks) p (s.wt p) (s.pg.getD p []) = crashPage k (s.wt p) (s.pg.getD p []) := by
            unfold crashAt; rw [hkq]; simp only; rw [if_neg he]
          have h4 : ∀ x, crashAt ks p [] x = x := fun x => by unfold crashAt; split <;> simp
          rw [h3, h4, List.getD_eq_getElem?_getD, List.getElem?_set_self hql]
          rfl
        · rw [if_neg (by rw [hq]; omega)]
          have h3 : crashAt (k :: ks) p (s.wt p) (s.pg.getD p []) = crashAt ks p (s.wt p) (s.pg.getD p []) := by unfold crashAt; rw [hko p hpq]
          rw [h3, List.getD_eq_getElem?_getD, List.getElem?_set_ne (fun e => hpq e.symm), ← List.getD_eq_getElem?_getD]
      · show (crashAll ks (crashOne s k)).n = _
        rw [h2, e1]
        simp only
        have h5 := sumTo_one (f := fun p => keptAt (k :: ks) p (s.wt p)) (g := fun p => keptAt ks p (if (p : Int) = k.page then [] else s.wt p)) (p := q) (d := kept k (s.wt q).length) hql
          (fun i _ hi => by
            show keptAt (k :: ks) i (s.wt i) = keptAt ks i (if (i : Int) = k.page then [] else s.wt i)
            rw [if_neg (by rw [hq]; omega)]
            unfold keptAt; rw [hko i hi])
          (by
            show keptAt (k :: ks) q (s.wt q) = keptAt ks q (if (q : Int) = k.page then [] else s.wt q) + _
            rw [if_pos hq.symm]
            unfold keptAt; rw [hkq]
            simp only
            split <;> simp [hk0])
        omega
end Go.Proofs.Ytehdigkjbobndaa

/- Maps keyed by whole numbers that a call made itself: whatever their elements are. Over any program. -/
namespace Go.Proofs.Ytehdigkjbobndaa
open Go.RowKit

/-- An element is kept as it is. -/
def keepV (v : Value) : Option (DataW Value × List MemPlace) := some (.held v, [])
/-- Block b is a map of at most n entries. -/
structure MapI (P : Program) (k : TypeId) (w : World) (b n : Nat) (f : Int → Option Value) : Prop where mk ::
  out : ∃ D : DataW Value, w.ownsMap P k keepV b n D ∧ Maps.IsMap D ∧ ∀ x, InK .i64 x → Maps.has D (.int .i64 x) = (f x).isSome ∧ ∀ zd, D.atKey (.int .i64 x) zd = match f x with | some v => .held v | none => zd
theorem MapI.lt {P : Program} {k : TypeId} {w : World} {b n : Nat} {f : Int → Option Value} (h : MapI P k w b n f) : b < w.heap.size := by
  obtain ⟨D, h1, _⟩ := h.out
  exact h1.lt
theorem MapI.upx {P : Program} {k : TypeId} {w w' : World} {b n : Nat} {f : Int → Option Value} (h : MapI P k w b n f) {F : Nat → Prop} (hu : UpX F w w') (hF : ¬ F b) : MapI P k w' b n f := by
  obtain ⟨D, ⟨es, clock, hb, r⟩, h2⟩ := h.out
  exact ⟨D, ⟨es, clock, hu.heap hb hF, r⟩, h2⟩
theorem MapI.up {P : Program} {k : TypeId} {w w' : World} {b n : Nat} {f : Int → Option Value} (h : MapI P k w b n f) (hu : Up w w') : MapI P k w' b n f := h.upx (hu.x fun _ => False) fun h => h
theorem MapI.mono {P : Program} {k : TypeId} {w : World} {b n n' : Nat} {f : Int → Option Value} (h : MapI P k w b n f) (hn : n ≤ n') : MapI P k w b n' f := by
  obtain ⟨D, h1, h2⟩ := h.out
  exact ⟨D, h1.mono hn, h2⟩
theorem MapI.congr {P : Program} {k : TypeId} {w : World} {b n : Nat} {f g : Int → Option Value} (h : MapI P k w b n f) (hg : ∀ y, f y = g y) : MapI P k w b n g := by
  have : f = g := funext hg
  subst this
  exact h
theorem MapI.made (P : Program) (k : TypeId) (w : World) : MapI P k (w.alloc (.map #[] 0)) w.heap.size 0 fun _ => none :=
  ⟨.map [], World.ownsMap_made w P k keepV, ⟨[], rfl⟩, fun _ _ => ⟨rfl, fun _ => rfl⟩⟩
theorem grownBy_x {W W' : World} {b : Nat} (hg : W.grownBy W' (some b)) : UpX (fun c => c = b) W W' := ⟨hg.os, hg.tape, hg.output, hg.size, fun k hk hF => hg.block k hk fun e => hF (Option.some.inj e)⟩

theorem wpl_mapPut {P : Program} (w : World) {ops : Array Oper} {rest : List Oper} {o : Oper} {a : Act} {Q : Exit → Act → World → Prop}
    (hg : o.guard = none) (m x v : Operand) (t : TypeId) (hop : o.op = Op.mapUpdate t m x v) (k e : TypeId) (hk : P.underlying k = some (.int .i64)) (ht : P.underlying t = some (.map k e)) (b n : Nat) (f : Int → Option Value)
    (hm : a.eval m = .map (some b)) (hown : MapI P k w b n f) (hn : n < maxLen) (key : Int) (val : Value) (hx : a.eval x = .int .i64 key) (hw : InK .i64 key) (hv : a.eval v = val)
    (hK : ∀ w', MapI P k w' b (n + 1) (fun y => if y = key then some val else f y) → UpX (fun c => c = b) w w' → wpList P ops Q rest (a.put o.dst undef) w') :
    wpList P ops Q (o :: rest) a w := by
  obtain ⟨D, h1, h2, h3⟩ := hown.out
  refine wpList_mapUpdate_own w hg m x v t hop k e (Maps.int_keyed hk) ht keepV b n D hm h1 hn _ val _ hx hv (Maps.keyOf_int_mk hk hw.wf) _ _ rfl fun w' h4 h5 => ?_
  refine hK w' ⟨_, h4, h2.put _ _, fun y hy => ?_⟩ (grownBy_x h5)
  by_cases e : y = key
  · subst e
    simp only [if_true]
    exact ⟨Maps.has_put_same h2 (show WideAt.IsKeyLit (.int .i64 y) from trivial) _, fun zd => Maps.atKey_put_same h2 (show WideAt.IsKeyLit (.int .i64 y) from trivial) _ zd⟩
  · simp only [if_neg e]
    have hne : (Lit.int .i64 y) ≠ .int .i64 key := fun h => e (by injection h)
    exact ⟨(Maps.has_put_other hne _).trans (h3 y hy).1, fun zd => (Maps.atKey_put_other hne _ zd).trans ((h3 y hy).2 zd)⟩

theorem MapI.look {P : Program} {k : TypeId} {w : World} {b n : Nat} {f : Int → Option Value} (h : MapI P k w b n f) {t e : TypeId} (hk : P.underlying k = some (.int .i64)) (ht : P.underlying t = some (.map k e)) {z : Value} (hz : (zeroValue e).run P w = .ok z w) (key : Int) (hw : InK .i64 key) :
    (Instr.lookup t (.map (some b)) (.int .i64 key) true).run P w = .ok (.tuple #[(f key).getD z, .bool (f key).isSome]) w ∧ (Instr.lookup t (.map (some b)) (.int .i64 key) false).run P w = .ok ((f key).getD z) w := by
  obtain ⟨D, h1, h2, h3⟩ := h.out
  obtain ⟨v, ps, hr, hv⟩ := h1.look_ok (Maps.int_keyed hk) ht hz (zd := .held z) (zp := []) rfl (Maps.keyOf_int_mk hk hw.wf)
  obtain ⟨v', ps', hr', hv'⟩ := h1.lookup (Maps.int_keyed hk) ht hz (zd := .held z) (zp := []) rfl (Maps.keyOf_int_mk hk hw.wf)
  obtain ⟨g1, g2⟩ := h3 key hw
  have aux : ∀ u qs, keepV u = some (D.atKey (.int .i64 key) (.held z), qs) → u = (f key).getD z := fun u qs hu => by
    rw [g2] at hu
    unfold keepV at hu
    cases hf : f key with
    | none => rw [hf] at hu; simp at hu; simpa using hu.1
    | some y => rw [hf] at hu; simp at hu; simpa using hu.1
  rw [hr, hr', aux v ps hv, aux v' ps' hv', g1]
  exact ⟨rfl, rfl⟩
end Go.Proofs.Ytehdigkjbobndaa

/- Maps keyed by whole numbers that a call made itself: delete, clear, and a range that may write other blocks. Over any program. -/
namespace Go.Proofs.Ytehdigkjbobndaa
open Go.RowKit Go.ChangeShapes Go.WideShapes Go.MapKept Go.ChangeMaps

theorem sameKey_int (x y : Int) : (Lit.int .i64 x).sameKey (.int .i64 y) = decide (x = y) := by
  by_cases h : x = y
  · subst h
    rw [WideAt.sameKey_self (show WideAt.IsKeyLit (.int .i64 x) from trivial)]
    simp
  · rw [decide_eq_false h]
    cases hs : (Lit.int .i64 x).sameKey (.int .i64 y)
    · rfl
    · have := WideAt.sameKey_eq hs
      injection this with _ e
      exact absurd e h
theorem wpl_mapDel {P : Program} (w : World) {ops : Array Oper} {rest : List Oper} {o : Oper} {a : Act} {Q : Exit → Act → World → Prop}
    (hg : o.guard = none) (m x : Operand) (t k : TypeId) (hop : o.op = Op.call { callee := Callee.builtin Builtin.delete, args := #[m, x], argTypes := #[t, k] }) (e : TypeId) (hk : P.underlying k = some (.int .i64)) (ht : P.underlying t = some (.map k e)) (b n : Nat) (f : Int → Option Value)
    (hm : a.eval m = .map (some b)) (hown : MapI P k w b n f) (key : Int) (hx : a.eval x = .int .i64 key) (hw : InK .i64 key)
    (hK : ∀ w', MapI P k w' b n (fun y => if y = key then none else f y) → UpX (fun c => c = b) w w' → wpList P ops Q rest (a.put o.dst (.tuple #[])) w') :
    wpList P ops Q (o :: rest) a w := by
  obtain ⟨D, h1, h2, h3⟩ := hown.out
  refine wpList_delete_own w hg m x t k hop e (Maps.int_keyed hk) ht keepV b n D hm h1 _ _ hx (Maps.keyOf_int_mk hk hw.wf) fun w' h4 h5 => ?_
  refine hK w' ⟨_, h4, h2.del _, fun y hy => ?_⟩ (grownBy_x h5.grown)
  by_cases e : y = key
  · subst e
    simp only [if_true]
    exact ⟨Maps.has_del_same, fun zd => Maps.atKey_del_same zd⟩
  · simp only [if_neg e]
    have hne : (Lit.int .i64 y) ≠ .int .i64 key := fun h => e (by injection h)
    exact ⟨(Maps.has_del_other hne).trans (h3 y hy).1, fun zd => (Maps.atKey_del_other hne zd).trans ((h3 y hy).2 zd)⟩
theorem wpl_mapClear {P : Program} (w : World) {ops : Array Oper} {rest : List Oper} {o : Oper} {a : Act} {Q : Exit → Act → World → Prop}
    (hg : o.guard = none) (m : Operand) (t k : TypeId) (hop : o.op = Op.call { callee := Callee.builtin Builtin.clear, args := #[m], argTypes := #[t] }) (e : TypeId) (ht : P.underlying t = some (.map k e)) (b n : Nat) (f : Int → Option Value)
    (hm : a.eval m = .map (some b)) (hown : MapI P k w b n f)
    (hK : ∀ w', MapI P k w' b 0 (fun _ => none) → UpX (fun c => c = b) w w' → wpList P ops Q rest (a.put o.dst (.tuple #[])) w') :
    wpList P ops Q (o :: rest) a w := by
  obtain ⟨D, ⟨es, clock, hb, F, hs, hD⟩, _⟩ := hown.out
  refine wpList_plain hg fun K' hK' => ?_
  have hr : (setObj b (.map #[] clock)).run P w = .ok () (setBlock w b (.map #[] clock)) := by
    simp only [setObj, Sem.run, hb]
    rfl
  unfold Oper.wp
  simp [execOp, hop, resolve, invoke, builtin, hm, Builtin.clear_, run_underlying ht, MapKept.run_getObj_map hb, hr, Result.andThen]
  refine hK' _ _ (hK _ ⟨.map [], ⟨#[], clock, heap_setBlock_same hb _, ⟨by simp, stamped_empty clock, by simp⟩, Nat.le_refl _, rfl⟩, ⟨[], rfl⟩, fun _ _ => ⟨rfl, fun _ => rfl⟩⟩ ?_)
  exact grownBy_x (World.mapTurned.grown ⟨es, clock, #[], clock, hb, rfl⟩)

/-- A range over such a map, under way: L: is the entry still to come? -/
structure RngI (P : Program) (k : TypeId) (w : World) (b r n : Nat) (f : Int → Option Value) (L : Int → Bool) (cnt : Nat) : Prop where mk ::
  out : ∃ (D : DataW Value) (left : Lit → Bool), w.ranges P k keepV b r n D left cnt ∧ Maps.IsMap D ∧ (∀ x, InK .i64 x → Maps.has D (.int .i64 x) = (f x).isSome ∧ ∀ zd, D.atKey (.int .i64 x) zd = match f x with | some v => .held v | none => zd) ∧ ∀ x, InK .i64 x → left (.int .i64 x) = L x
section
variable {P : Program} {k : TypeId} {w : World} {b r n cnt : Nat} {f : Int → Option Value} {L : Int → Bool}
theorem RngI.left_eq (h : RngI P k w b r n f L cnt) : w.rangeLeft b r = cnt := by
  obtain ⟨D, left, h1, _⟩ := h.out
  exact h1.left_eq
theorem RngI.map (h : RngI P k w b r n f L cnt) : MapI P k w b n f := by
  obtain ⟨D, left, h1, h2, h3, _⟩ := h.out
  exact ⟨D, h1.owns, h2, h3⟩
theorem RngI.ne (h : RngI P k w b r n f L cnt) : r ≠ b := by
  obtain ⟨D, left, h1, _⟩ := h.out
  exact h1.ne
theorem RngI.lt (h : RngI P k w b r n f L cnt) : r < w.heap.size := by
  obtain ⟨D, left, h1, _⟩ := h.out
  exact h1.lt
theorem RngI.upx {w' : World} (h : RngI P k w b r n f L cnt) {F : Nat → Prop} (hu : UpX F w w') (hb : ¬ F b) (hr : ¬ F r) : RngI P k w' b r n f L cnt := by
  obtain ⟨D, left, ⟨es, clock, since, seen, c0, g1, g2, g3, g4, g5, g6⟩, h2⟩ := h.out
  exact ⟨D, left, ⟨es, clock, since, seen, c0, hu.heap g1 hb, g2, g3, g4, hu.heap g5 hr, g6⟩, h2⟩
end
theorem wpl_mapRange {P : Program} (w : World) {ops : Array Oper} {rest : List Oper} {o : Oper} {a : Act} {Q : Exit → Act → World → Prop}
    (hg : o.guard = none) (m : Operand) (t : TypeId) (hop : o.op = Op.range t m) (k e : TypeId) (hk : P.underlying k = some (.int .i64)) (ht : P.underlying t = some (.map k e)) (b n : Nat) (f : Int → Option Value)
    (hm : a.eval m = .map (some b)) (hown : MapI P k w b n f)
    (hK : ∀ w' cnt, RngI P k w' b w.heap.size n f (fun x => (f x).isSome) cnt → Up w w' → w'.heap.size = w.heap.size + 1 → wpList P ops Q rest (a.put o.dst (.pointer (some ⟨w.heap.size, 0, none⟩))) w') :
    wpList P ops Q (o :: rest) a w := by
  obtain ⟨D, h1, h2, h3⟩ := hown.out
  refine wpList_range_own w hg m t hop k e (Maps.int_keyed hk) ht keepV b n D hm h1 fun w' h4 h5 h6 => ?_
  refine hK w' _ ⟨D, _, h4, h2, h3, fun x hx => (h3 x hx).1⟩ ?_ h6
  exact ⟨h5.os, h5.tape, h5.output, h5.size, fun j hj => h5.block j hj (by simp)⟩
theorem wpl_mapNext {P : Program} (w : World) {ops : Array Oper} {rest : List Oper} {o : Oper} {a : Act} {Q : Exit → Act → World → Prop}
    (hg : o.guard = none) (it : Operand) (hop : o.op = Op.next it false) (k : TypeId) (hk : P.underlying k = some (.int .i64)) (b r n : Nat) (f : Int → Option Value) (L : Int → Bool) (cnt : Nat)
    (hit : a.eval it = .pointer (some ⟨r, 0, none⟩)) (h : RngI P k w b r n f L cnt)
    (hDone : cnt = 0 → (∀ x, InK .i64 x → L x = false) → wpList P ops Q rest (a.put o.dst (.tuple #[.bool false])) w)
    (hMore : ∀ (x : Int) (v : Value) (w' : World) (cnt' : Nat), InK .i64 x → L x = true → f x = some v → RngI P k w' b r n f (fun y => L y && !decide (y = x)) cnt' → cnt' < cnt →
      UpX (fun c => c = r) w w' → w'.heap.size = w.heap.size → (Instr.entry (.pointer (some ⟨r, 0, none⟩))).run P w' = .ok (.tuple #[.int .i64 x, v]) w' → wpList P ops Q rest (a.put o.dst (.tuple #[.bool true, .int .i64 x, v])) w') :
    wpList P ops Q (o :: rest) a w := by
  obtain ⟨D, left, h1, h2, h3, h4⟩ := h.out
  refine wpList_next_ranges (α := Int) (β := Value) w hg it hop k (Maps.int_keyed hk) keepV (Value.int .i64) id (fun key kl hkey => by obtain ⟨x, rfl, _⟩ := Maps.keyOf_int_inv hk hkey; exact ⟨x, rfl⟩) (fun v y hv => ⟨v, rfl⟩)
    b r n D left cnt hit h1 (fun hc hl => hDone hc fun x hx => by rw [← h4 x hx]; exact hl _) fun x v kl y w' cnt' hkey hl hv hat hrg hlt hgr hsz hen => ?_
  obtain ⟨x', ex, rfl, hwx⟩ := Maps.keyOf_int_inv hk hkey
  cases ex
  have hx : InK .i64 x := ⟨hwx⟩
  have hfx : f x = some v := by
    have g := (h3 x hx).2 (.lit (.int .i64 0))
    rw [hat] at g
    have hy : y.1 = .held v := by
      have : keepV v = some y := hv
      unfold keepV at this
      rw [← Option.some.inj this]
    rw [hy] at g
    cases hf : f x with
    | none => rw [hf] at g; cases g
    | some u =>
      rw [hf] at g
      have : DataW.held v = DataW.held u := g
      injection this with e
      rw [e]
  refine hMore x v w' cnt' hx (by rw [← h4 x hx]; exact hl) hfx ⟨D, _, hrg, h2, h3, fun z hz => ?_⟩ hlt (grownBy_x hgr) hsz hen
  show (left (.int .i64 z) && !(Lit.int .i64 z).sameKey (.int .i64 x)) = _
  rw [sameKey_int, h4 z hz]
end Go.Proofs.Ytehdigkjbobndaa

/- A device's words: copying into a slice of one's own. Over any program. -/
namespace Go.Proofs.Ytehdigkjbobndaa
open Go.RowKit

/-- copy(d, s): d is a part of a slice of one's own. -/
theorem wpl_copyO {P : Program} {w : World} {ops : Array Oper} {rest : List Oper} {a : Act} {Q : Exit → Act → World → Prop} {dst : Option Tmp} {ty : TypeId} {pos : String} {after : Array Edge}
    {d s : Operand} {dT sT : TypeId} (e : Nat) (k : IntKind) (hu : P.underlying dT = some (.slice e)) (hsz : (P.info? e).map (·.size) = some 1)
    (base : Nat) (v : Value) (xs : List Int) (hown : Own w base e k v xs) (g vn vc off dn dc : Nat) (hv : v = .slice (some ⟨g, 0, none⟩) vn vc) (hd : a.eval d = .slice (some ⟨g, off, none⟩) dn dc)
    (A : Option Addr) (n c : Nat) (ys : List Int) (hs : a.eval s = .slice A n c) (hn : n = ys.length) (hr : Rd w k A c ys) (hl : ys.length ≤ dn) (hf : off + ys.length ≤ xs.length)
    (h : ∀ w', Own w' base e k v (laid xs off ys) → UpX (fun b => b = g) w w' → w'.heap.size = w.heap.size → wpList P ops Q rest (a.put dst (goInt ys.length)) w') :
    wpList P ops Q ({ dst := dst, op := .call { callee := .builtin .copy, args := #[d, s], argTypes := #[dT, sT] }, type := ty, pos := pos, after := after, guard := none } :: rest) a w := by
  subst hn hv
  by_cases h0 : ys.length = 0
  · have hx : ys = [] := List.eq_nil_of_length_eq_zero h0
    subst hx
    refine wpList_copy_nothing rfl d s dT sT rfl e hu hsz _ _ _ _ _ _ hd hs (by simp) ?_
    refine h w ?_ (UpX.refl _ _) rfl
    rw [show laid xs off [] = xs by unfold laid; simp]
    exact hown
  · cases A with
    | none => have := hr.non rfl; omega
    | some ad =>
      rcases hown.row.2 with ⟨hbad, _⟩ | ⟨g', cap, cur, hg', hb, hh, h1, h2, h3, h4⟩
      · cases hbad
      · injection hg' with e1 e2 e3
        injection e1 with e1
        injection e1 with e1
        subst e1 e2 e3
        rw [Nat.mul_one] at h3 h4
        have h3' : cur.toList.length = vc := by simpa using h3
        refine wpList_copy_own rfl d s dT sT rfl e hu hsz g off _ _ ad _ _ hd hs cur e hh (ys.map (Value.int k)) (by simp [Nat.min_eq_left hl]) (fun j v hj => ?_) (by simp; omega) (by simp [Value.oneCell']) ?_
        · obtain ⟨hj1, rfl⟩ := List.getElem?_eq_some_iff.1 hj
          rw [List.length_map] at hj1
          have := hr.cell ad rfl j hj1
          simpa [List.getD_eq_getElem?_getD, hj1] using this
        · rw [List.length_map]
          refine h _ ⟨⟨by simp, .inr ⟨g, vc, (cur.toList.take off ++ (ys.map (Value.int k) ++ cur.toList.drop (off + ys.length))).toArray, ?_, hb, setRow_heap w g _ _ e _ hh, by rw [laid_len hf]; exact h1, h2, ?_, ?_⟩⟩, laid_wf hown.wf hr.wf⟩ ⟨rfl, rfl, rfl, by simp, fun b _ hne => setRow_other w g b _ hne⟩ (by simp)
          · rw [laid_len hf]
          · simp; omega
          · rw [Nat.mul_one, laid_len hf]
            unfold laid
            simp only [List.map_append, List.map_take, List.map_drop]
            rw [← h4, List.take_append, List.take_append]
            simp only [List.length_take, List.length_map, h3', List.take_take, List.drop_take]
            rw [show min off vc = off by omega, List.take_of_length_le (l := ys.map (Value.int k)) (by simp; omega)]
            rw [show min xs.length off = off by omega, show min off xs.length = off by omega]
            congr 2
            rw [show xs.length - off - ys.length = xs.length - (off + ys.length) by omega]
end Go.Proofs.Ytehdigkjbobndaa

/- Layer 3: a device in memory, its small functions. -/
namespace Go.Proofs.Ytehdigkjbobndaa
open Go.RowKit
set_option maxRecDepth 100000

/-- A device as lists: on or off, armed, what is left, counts, pages, what waits for each. -/
structure DSt where
  off : Bool
  armed : Bool
  left : Int
  rd : Nat
  wr : Nat
  sy : Nat
  pg : List (List Int)
  wt : Int → List (List Int)
/-- .. as it may be. -/
structure DOk (s : DSt) : Prop where
  len : ∀ p ∈ s.pg, p.length = 256
  one : 1 ≤ s.pg.length
  most : s.pg.length ≤ 2048
  wlen : ∀ p, ∀ l ∈ s.wt p, l.length = 256
  win : ∀ p, s.wt p ≠ [] → 0 ≤ p ∧ p < (s.pg.length : Int)
  left : InK .i64 s.left
  wmax : ∀ p, (s.wt p).length ≤ s.wr
/-- The versions that wait for a page: an own slice of slices; their bytes lie in blocks of S that are not the laid ones'. -/
structure WaitI (w : World) (S : Nat → Prop) (gl : Nat) (v : Value) (ls : List (List Int)) : Prop where mk ::
  out : ∃ vs, OwnV w 0 22 v vs ∧ Vals (fun b => S b ∧ b ≠ gl ∧ Typed w 5 b) w .u8 vs ls ∧ ∀ b, v.ownBlock = some b → S b
theorem WaitI.upx {w w' : World} {S F : Nat → Prop} {gl : Nat} {v : Value} {ls : List (List Int)} (h : WaitI w S gl v ls) (hu : UpX F w w') (hs : ∀ b, v.ownBlock = some b → ¬ F b) (hc : ∀ b, S b → b ≠ gl → Typed w 5 b → ¬ F b) : WaitI w' S gl v ls := by
  obtain ⟨vs, h1, h2, h3⟩ := h.out
  exact ⟨vs, h1.upx hu hs, (h2.upx hu fun b hb => hc b hb.1 hb.2.1 hb.2.2).mono fun b hb => ⟨hb.1, hb.2.1, hb.2.2.upx hu (hc b hb.1 hb.2.1 hb.2.2)⟩, h3⟩
theorem WaitI.mono {w : World} {S S' : Nat → Prop} {gl : Nat} {v : Value} {ls : List (List Int)} (h : WaitI w S gl v ls) (hS : ∀ b, S b → S' b) : WaitI w S' gl v ls := by
  obtain ⟨vs, h1, h2, h3⟩ := h.out
  exact ⟨vs, h1, h2.mono fun b hb => ⟨hS b hb.1, hb.2⟩, fun b hb => hS b (h3 b hb)⟩
theorem WaitI.typed {w : World} {S : Nat → Prop} {gl : Nat} {v : Value} {ls : List (List Int)} (h : WaitI w S gl v ls) : ∀ b, v.ownBlock = some b → Typed w 22 b := by
  obtain ⟨vs, h1, h2, h3⟩ := h.out
  exact h1.typed
theorem WaitI.slice {w : World} {S : Nat → Prop} {gl : Nat} {v : Value} {ls : List (List Int)} (h : WaitI w S gl v ls) : ∃ A c, v = .slice A ls.length c ∧ ls.length ≤ c ∧ RdL w .u8 A c ls := by
  obtain ⟨vs, h1, h2, h3⟩ := h.out
  obtain ⟨A, c, e, h4⟩ := h1.rdLF (F := fun _ => True) (h2.mono fun _ _ => trivial) fun _ _ => trivial
  exact ⟨A, c, e, h4.le, h4.rd⟩
structure WaitsI (w : World) (S : Nat → Prop) (gl : Nat) (f : Int → Option Value) (wt : Int → List (List Int)) : Prop where
  at_ : ∀ p, (f p = none ∧ wt p = []) ∨ ∃ v, f p = some v ∧ wt p ≠ [] ∧ WaitI w S gl v (wt p)
  sep : ∀ p q u v, f p = some u → f q = some v → p ≠ q → ∀ b, u.ownBlock = some b → ¬ v.ownBlock = some b

abbrev devCells (s : DSt) (gl cap bm : Nat) : Array Value := #[.bool s.off, .bool s.armed, .int .i64 s.left, .int .i64 s.rd, .int .i64 s.wr, .int .i64 s.sy, .slice (some ⟨gl, 0, none⟩) (256 * s.pg.length) cap, .map (some bm)]
/-- A device in memory, in blocks of S. -/
structure DevX (w : World) (g : Nat) (S : Nat → Prop) (s : DSt) (gl cap bm n : Nat) (f : Int → Option Value) : Prop where
  b : Blk w g 102 (devCells s gl cap bm)
  laid : Own w 0 5 .u8 (.slice (some ⟨gl, 0, none⟩) (256 * s.pg.length) cap) s.pg.flatten
  map : MapI Try.prog 3 w bm n f
  nle : n ≤ s.wr
  wts : WaitsI w S gl f s.wt
  sg : S g
  sgl : S gl
  sbm : S bm
  ne1 : g ≠ gl
  ne2 : g ≠ bm
  ne3 : gl ≠ bm
  lt : ∀ b, S b → b < w.heap.size
  ok : DOk s
structure DevI (w : World) (g : Nat) (S : Nat → Prop) (s : DSt) : Prop where mk ::
  out : ∃ gl cap bm n f, DevX w g S s gl cap bm n f
theorem MapI.typed {P : Program} {k : TypeId} {w : World} {b n t : Nat} {f : Int → Option Value} (h : MapI P k w b n f) : ¬ Typed w t b := by
  obtain ⟨D, ⟨es, clock, hb, _⟩, _⟩ := h.out
  intro ht
  obtain ⟨cs, fr, h⟩ := ht.out
  rw [hb] at h
  cases h
theorem flatten_len {pg : List (List Int)} {m : Nat} (h : ∀ p ∈ pg, p.length = m) : pg.flatten.length = m * pg.length := by
  induction pg with
  | nil => rfl
  | cons p pg ih =>
    rw [List.flatten_cons, List.length_append, ih fun q hq => h q (List.mem_cons_of_mem _ hq), h p (List.mem_cons_self ..), List.length_cons, Nat.mul_succ]
    omega
section
variable {w w' : World} {g : Nat} {S F : Nat → Prop} {s : DSt} {gl cap bm n : Nat} {f : Int → Option Value}
/-- What doesn't touch its blocks leaves it. -/
theorem DevX.upx (h : DevX w g S s gl cap bm n f) (hu : UpX F w w') (hF : ∀ b, S b → ¬ F b) : DevX w' g S s gl cap bm n f :=
  ⟨h.b.upx hu (hF _ h.sg), h.laid.upx hu (fun b hb => by simp only [Value.ownBlock, Option.some.injEq] at hb; subst hb; exact hF _ h.sgl), h.map.upx hu (hF _ h.sbm), h.nle,
   ⟨fun p => (h.wts.at_ p).imp id fun ⟨v, h1, h2, h3⟩ => ⟨v, h1, h2, h3.upx hu (fun b hb => hF b (by obtain ⟨_, _, _, h4⟩ := h3.out; exact h4 b hb)) fun b hb _ _ => hF b hb⟩, h.wts.sep⟩,
   h.sg, h.sgl, h.sbm, h.ne1, h.ne2, h.ne3, fun b hb => Nat.lt_of_lt_of_le (h.lt b hb) hu.size, h.ok⟩
theorem DevI.upx (h : DevI w g S s) (hu : UpX F w w') (hF : ∀ b, S b → ¬ F b) : DevI w' g S s := by
  obtain ⟨gl, cap, bm, n, f, h⟩ := h.out
  exact ⟨gl, cap, bm, n, f, h.upx hu hF⟩
theorem DevI.up (h : DevI w g S s) (hu : Up w w') : DevI w' g S s := h.upx (hu.x fun _ => False) fun _ _ f => f
theorem DevX.up (h : DevX w g S s gl cap bm n f) (hu : Up w w') : DevX w' g S s gl cap bm n f := h.upx (hu.x fun _ => False) fun _ _ f => f
theorem DevI.lt (h : DevI w g S s) : ∀ b, S b → b < w.heap.size := by
  obtain ⟨gl, cap, bm, n, f, h⟩ := h.out
  exact h.lt
theorem DevI.ok (h : DevI w g S s) : DOk s := by
  obtain ⟨gl, cap, bm, n, f, h⟩ := h.out
  exact h.ok
theorem DevI.sg (h : DevI w g S s) : S g := by
  obtain ⟨gl, cap, bm, n, f, h⟩ := h.out
  exact h.sg
/-- The versions' blocks are none of the three. -/
theorem DevX.spine (h : DevX w g S s gl cap bm n f) {p : Int} {v : Value} (hf : f p = some v) : ∀ b, v.ownBlock = some b → b ≠ g ∧ b ≠ gl ∧ b ≠ bm := by
  intro b hb
  rcases h.wts.at_ p with ⟨h1, _⟩ | ⟨v', h1, _, h2⟩
  · rw [hf] at h1; cases h1
  · rw [hf] at h1
    obtain rfl := Option.some.inj h1
    have ht := h2.typed b hb
    refine ⟨fun e => ?_, fun e => ?_, fun e => ?_⟩
    · subst e
      have := ht.ne ⟨_, _, h.b.out⟩
      cases this
    · subst e
      have := ht.ne (h.laid.typed b rfl)
      cases this
    · subst e
      exact h.map.typed ht
theorem DevX.content (h : DevX w g S s gl cap bm n f) {b : Nat} (ht : Typed w 5 b) : b ≠ g ∧ b ≠ bm ∧ ∀ p v, f p = some v → ¬ v.ownBlock = some b := by
  refine ⟨fun e => ?_, fun e => ?_, fun p v hf hb => ?_⟩
  · subst e
    have := ht.ne ⟨_, _, h.b.out⟩
    cases this
  · subst e
    exact h.map.typed ht
  · rcases h.wts.at_ p with ⟨h1, _⟩ | ⟨v', h1, _, h2⟩
    · rw [hf] at h1; cases h1
    · rw [hf] at h1
      obtain rfl := Option.some.inj h1
      have := ht.ne (h2.typed b hb)
      cases this
/-- Its struct's cells alone are changed. -/
theorem DevX.cells (h : DevX w g S s gl cap bm n f) {s' : DSt} (hu : UpX (fun b => b = g) w w') (hb : Blk w' g 102 (devCells s' gl cap bm)) (hp : s'.pg = s.pg) (hw : s'.wt = s.wt) (hwr : s.wr ≤ s'.wr) (hl : InK .i64 s'.left) : DevX w' g S s' gl cap bm n f := by
  have ho := h.ok
  refine ⟨hb, ?_, h.map.upx hu (fun e => h.ne2 e.symm), Nat.le_trans h.nle hwr, ?_, h.sg, h.sgl, h.sbm, h.ne1, h.ne2, h.ne3, fun b hb => Nat.lt_of_lt_of_le (h.lt b hb) hu.size, ⟨?_, ?_, ?_, ?_, ?_, hl, ?_⟩⟩
  · rw [hp]
    exact h.laid.upx hu (fun b hb e => by simp only [Value.ownBlock, Option.some.injEq] at hb; exact h.ne1 (e.symm.trans hb.symm))
  · rw [hw]
    refine ⟨fun p => (h.wts.at_ p).imp id fun ⟨v, h1, h2, h3⟩ => ⟨v, h1, h2, h3.upx hu (fun b hb e => (h.spine h1 b hb).1 e) fun b hb _ ht e => (h.content ht).1 e⟩, h.wts.sep⟩
  · rw [hp]; exact ho.len
  · rw [hp]; exact ho.one
  · rw [hp]; exact ho.most
  · rw [hw]; exact ho.wlen
  · rw [hw, hp]; exact ho.win
  · rw [hw]; exact fun p => Nat.le_trans (ho.wmax p) hwr
end
end Go.Proofs.Ytehdigkjbobndaa

/- Layer 3: a device's small methods. -/
namespace Go.Proofs.Ytehdigkjbobndaa
open Go.RowKit
set_option maxRecDepth 100000

theorem atomAdd_calls (a : Addr) (x : Int) (w : World) (hc : w.cell? a = some (.int .i64 x)) (hz : w.frozen? a = false) (h0 : 0 ≤ x) (h1 : x < 4611686018427387904) :
    Calls Try.prog 55 #[.pointer (some a), .int .i64 1] w fun e w' => e = .returned (.int .i64 (x + 1)) ∧ w' = w.setCell a (.int .i64 (x + 1)) := by
  have hs : (Op.intArith .add .i64 x 1).run Try.prog w = .ok (.int .i64 (x + 1)) w := by
    simp only [go_sem]
    rw [IntKind.wrap_i64, show ((x + 1 + 9223372036854775808) % 18446744073709551616 - 9223372036854775808) = x + 1 by omega]
    rfl
  have hadd := run_call_add (P := Try.prog) Try.func72 (by kernel_rfl) (by kernel_rfl) (by kernel_rfl) .i64 (by kernel_rfl) (y := 1) (s := x + 1) hc hz hs
  go_enter Try.func55, Try.ntmps55
  go_wp2_with fail
  go_ret
  exact ⟨rfl, rfl⟩
theorem atomLoad_calls (a : Addr) (x : Int) (w : World) (hc : w.cell? a = some (.int .i64 x)) :
    Calls Try.prog 61 #[.pointer (some a)] w fun e w' => e = .returned (.int .i64 x) ∧ w' = w := by
  have hl := run_call_load (P := Try.prog) Try.func73 (by kernel_rfl) (by kernel_rfl) (by kernel_rfl) .i64 (by kernel_rfl) hc
  go_enter Try.func61, Try.ntmps61
  go_wp2_with fail
  go_ret
  exact ⟨rfl, rfl⟩
theorem devOn_calls (g : Nat) (S : Nat → Prop) (s : DSt) (w : World) (h : DevI w g S s) :
    Calls Try.prog 25 #[.pointer (some ⟨g, 0, none⟩)] w fun e w' => e = .returned (.bool (!s.off)) ∧ w' = w := by
  obtain ⟨gl, cap, bm, n, f, h⟩ := h.out
  have g0 : w.cell? ⟨g, 0, none⟩ = some (.bool s.off) := h.b.cell 0
  have hnot : ∀ (x : Bool) (w : World), (Op.unary .not (.bool x)).run Try.prog w = .ok (.bool (!x)) w := fun _ _ => rfl
  clear h
  go_enter Try.func25, Try.ntmps25
  go_wp2_with fail
  go_ret
  exact ⟨rfl, rfl⟩
theorem devPages_calls (g : Nat) (S : Nat → Prop) (s : DSt) (w : World) (h : DevI w g S s) :
    Calls Try.prog 14 #[.pointer (some ⟨g, 0, none⟩)] w fun e w' => e = .returned (.int .i64 s.pg.length) ∧ w' = w := by
  have hm := h.ok.most
  obtain ⟨gl, cap, bm, n, f, h⟩ := h.out
  have g6 : w.cell? ⟨g, 6, none⟩ = some (.slice (some ⟨gl, 0, none⟩) (256 * s.pg.length) cap) := h.b.cell 6
  clear h
  generalize s.pg.length = m at *
  go_enter Try.func14, Try.ntmps14
  go_wp2_with fail
  go_ret
  exact ⟨rfl, rfl⟩
/-- What is wrong with a page's number. -/
def devErr (s : DSt) (no : Int) : Int := if s.off then 9 else if no < 0 ∨ (s.pg.length : Int) ≤ no then 10 else 0
theorem devCheck_calls (g : Nat) (S : Nat → Prop) (s : DSt) (no : Int) (w : World) (h : DevI w g S s) :
    Calls Try.prog 54 #[.pointer (some ⟨g, 0, none⟩), .int .i64 no] w fun e w' => e = .returned (.int .i64 (devErr s no)) ∧ w' = w := by
  have H1 := Lib.hid (devOn_calls g S s w h)
  have H2 := Lib.hid (devPages_calls g S s w h)
  have hnot : ∀ (x : Bool) (w : World), (Op.unary .not (.bool x)).run Try.prog w = .ok (.bool (!x)) w := fun _ _ => rfl
  clear h
  unfold devErr
  generalize s.off = off at *
  cases off with
  | true =>
    go_enter Try.func54, Try.ntmps54
    go_wp2_with fail
    refine (H1.out).mono ?_
    rintro en w1 ⟨rfl, rfl⟩
    go_wp2_with fail
    go_ret
    exact ⟨rfl, rfl⟩
  | false =>
    generalize s.pg.length = m at *
    by_cases hn : no < 0
    · go_enter Try.func54, Try.ntmps54
      go_wp2_with fail
      refine (H1.out).mono ?_
      rintro en w1 ⟨rfl, rfl⟩
      go_wp2_with fail
      go_ret
      exact ⟨by simp, rfl⟩
    · have hn0 : decide (no < 0) = false := decide_eq_false hn
      have hn1 : 0 ≤ no := by omega
      by_cases hm : (m : Int) ≤ no
      · clear hn
        go_enter Try.func54, Try.ntmps54
        go_wp2_with fail
        refine (H1.out).mono ?_
        rintro en w1 ⟨rfl, rfl⟩
        go_wp2_with fail
        refine (H2.out).mono ?_
        rintro en w1 ⟨rfl, rfl⟩
        go_wp2_with fail
        go_ret
        exact ⟨by simp, rfl⟩
      · have hm0 : decide ((m : Int) ≤ no) = false := decide_eq_false hm
        have hm1 : no < (m : Int) := by omega
        go_enter Try.func54, Try.ntmps54
        go_wp2_with fail
        refine (H1.out).mono ?_
        rintro en w1 ⟨rfl, rfl⟩
        go_wp2_with fail
        refine (H2.out).mono ?_
        rintro en w1 ⟨rfl, rfl⟩
        go_wp2_with fail
        go_ret
        exact ⟨by simp, rfl⟩

/-- A write or a sync is used up. -/
def useOk (s : DSt) : Bool := !(s.armed && decide (s.left = 0))
def useS (s : DSt) : DSt := if useOk s then { s with left := wrap64 (s.left - 1) } else { s with off := true }
theorem wrap64_k (x : Int) : InK .i64 (wrap64 x) := InK.of_i64 (by unfold wrap64; omega) (by unfold wrap64; omega)
theorem powUse_calls (g : Nat) (S : Nat → Prop) (s : DSt) (gl cap bm n : Nat) (f : Int → Option Value) (w : World) (h : DevX w g S s gl cap bm n f) :
    Calls Try.prog 57 #[.pointer (some ⟨g, 0, none⟩)] w fun e w' => e = .returned (.bool (useOk s)) ∧ DevX w' g S (useS s) gl cap bm n f ∧ UpX (fun b => b = g) w w' := by
  have g1 : w.cell? ⟨g, 1, none⟩ = some (.bool s.armed) := h.b.cell 1
  have g2 : w.cell? ⟨g, 2, none⟩ = some (.int .i64 s.left) := h.b.cell 2
  have g0 : w.cell? ⟨g, 0, none⟩ = some (.bool s.off) := h.b.cell 0
  have f0 := h.b.frozen 0
  have f2 := h.b.frozen 2
  have H1 := Lib.hid fun x => h.b.set 2 (.int .i64 x)
  have H2 := Lib.hid (h.b.set 0 (.bool true))
  have H3 := Lib.hid (fun w' s' hu hb hp hw hwr hl => h.cells (w' := w') (s' := s') hu hb hp hw hwr hl)
  have hl := h.ok.left
  clear h
  have e1 : ∀ x, wrap64 (x - 1) = wrap64 (x - 1) := fun _ => rfl
  obtain ⟨off, armed, left, rd, wr, sy, pg, wt⟩ := s
  simp only at *
  cases armed with
  | false =>
    go_enter Try.func57, Try.ntmps57
    go_wp2_with fail
    go_ret
    refine ⟨by simp [useOk], ?_, UpX.one _ _ _ _⟩
    rw [show useS ⟨off, false, left, rd, wr, sy, pg, wt⟩ = ⟨off, false, wrap64 (left - 1), rd, wr, sy, pg, wt⟩ by simp [useS, useOk]]
    exact H3.out _ _ (UpX.one _ _ _ _) (H1.out _) rfl rfl (Nat.le_refl _) (wrap64_k _)
  | true =>
    by_cases hz : left = 0
    · subst hz
      go_enter Try.func57, Try.ntmps57
      go_wp2_with fail
      go_ret
      refine ⟨by simp [useOk], ?_, UpX.one _ _ _ _⟩
      rw [show useS ⟨off, true, 0, rd, wr, sy, pg, wt⟩ = ⟨true, true, 0, rd, wr, sy, pg, wt⟩ by simp [useS, useOk]]
      exact H3.out _ _ (UpX.one _ _ _ _) H2.out rfl rfl (Nat.le_refl _) hl
    · have hz1 : (left == 0) = false := by simp [hz]
      go_enter Try.func57, Try.ntmps57
      go_wp2_with fail
      go_ret
      refine ⟨by simp [useOk, hz], ?_, UpX.one _ _ _ _⟩
      rw [show useS ⟨off, true, left, rd, wr, sy, pg, wt⟩ = ⟨off, true, wrap64 (left - 1), rd, wr, sy, pg, wt⟩ by simp [useS, useOk, hz]]
      exact H3.out _ _ (UpX.one _ _ _ _) (H1.out _) rfl rfl (Nat.le_refl _) (wrap64_k _)
theorem DevX.cap {w : World} {g : Nat} {S : Nat → Prop} {s : DSt} {gl cap bm n : Nat} {f : Int → Option Value} (h : DevX w g S s gl cap bm n f) : 256 * s.pg.length ≤ cap := by
  obtain ⟨A, c, e, hr⟩ := h.laid.rd
  have hl := flatten_len h.ok.len
  have := hr.le
  injection e with _ _ e3
  subst e3
  omega
/-- Where a page lies. -/
theorem devPage_calls (g : Nat) (S : Nat → Prop) (s : DSt) (gl cap bm n : Nat) (f : Int → Option Value) (no : Nat) (w : World) (h : DevX w g S s gl cap bm n f) (hn : no < s.pg.length) :
    Calls Try.prog 56 #[.pointer (some ⟨g, 0, none⟩), .int .i64 no] w fun e w' => e = .returned (.slice (some ⟨gl, 256 * no, none⟩) 256 (cap - 256 * no)) ∧ w' = w := by
  have hcap := h.cap
  have hm := h.ok.most
  have g6 : w.cell? ⟨g, 6, none⟩ = some (.slice (some ⟨gl, 0, none⟩) (256 * s.pg.length) cap) := h.b.cell 6
  clear h
  generalize s.pg.length = m at *
  have hlt : 256 * (no + 1) ≤ cap := by omega
  go_enter Try.func56, Try.ntmps56
  go_wp2_with fail
  go_ret
  refine ⟨?_, rfl⟩
  rw [show 256 * (no + 1) - 256 * no = 256 by omega]
  rfl
/-- Its counts. -/
theorem devCounts_calls (g : Nat) (S : Nat → Prop) (s : DSt) (w : World) (h : DevI w g S s) :
    Calls Try.prog 33 #[.pointer (some ⟨g, 0, none⟩)] w fun e w' => e = .returned (.tuple #[.int .i64 s.rd, .int .i64 s.wr, .int .i64 s.sy]) ∧ Qt w w' := by
  obtain ⟨gl, cap, bm, n, f, h⟩ := h.out
  have g3 : w.cell? ⟨g, 3, none⟩ = some (.int .i64 s.rd) := h.b.cell 3
  have g4 : w.cell? ⟨g, 4, none⟩ = some (.int .i64 s.wr) := h.b.cell 4
  have g5 : w.cell? ⟨g, 5, none⟩ = some (.int .i64 s.sy) := h.b.cell 5
  clear h
  go_enter Try.func33, Try.ntmps33
  go_wp2_with fail
  refine wp_region_tree (fun w' => Up w w') (.quiet 0 (.quiet 1 (.quiet 2 (.quiet 3 (.quiet 5 (.quiet 6 (.quiet 7 (.quiet 8 (.quiet 10 (.quiet 11 (.quiet 12 (.quiet 13 (.alt 4 (.alt 9 (.alt 14 (.quiet 15 (.quiet 16 (.quiet 17 (.nil)))) (.stop)) (.stop)) (.stop)))))))))))))) (by kernel_rfl) (by kernel_rfl) rfl (by kernel_rfl) (by kernel_rfl) ((Up.refl w).drew) ?_
  simp only [pickT, List.getElem?_cons_succ, List.getElem?_cons_zero, Option.getD_some]
  repeat (refine tree_step rfl (fun K hK => ?_); go_big_quiet_step ((intro _; rfl)); refine wpQuiet_nil (hK _ ?_); clear hK K)
  refine tree_do (fun K hK => ?_)
  go_wp2_with fail
  refine (atomLoad_calls ⟨g, 3, none⟩ s.rd w.drew g3).mono ?_
  rintro en w1 ⟨rfl, rfl⟩
  go_wp2_with fail
  refine ⟨(Up.refl w).drew, ?_⟩
  repeat (refine tree_step rfl (fun K hK => ?_); go_big_quiet_step ((intro _; rfl)); refine wpQuiet_nil (hK _ ?_); clear hK K)
  refine tree_do (fun K hK => ?_)
  go_wp2_with fail
  refine (atomLoad_calls ⟨g, 4, none⟩ s.wr w.drew g4).mono ?_
  rintro en w1 ⟨rfl, rfl⟩
  go_wp2_with fail
  refine ⟨(Up.refl w).drew, ?_⟩
  repeat (refine tree_step rfl (fun K hK => ?_); go_big_quiet_step ((intro _; rfl)); refine wpQuiet_nil (hK _ ?_); clear hK K)
  refine tree_do (fun K hK => ?_)
  go_wp2_with fail
  refine (atomLoad_calls ⟨g, 5, none⟩ s.sy w.drew g5).mono ?_
  rintro en w1 ⟨rfl, rfl⟩
  go_wp2_with fail
  refine ⟨(Up.refl w).drew, ?_⟩
  repeat (refine tree_step rfl (fun K hK => ?_); go_big_quiet_step ((intro _; rfl)); refine wpQuiet_nil (hK _ ?_); clear hK K)
  refine tree_nil ?_
  go_wp2_with fail
  go_ret3
  exact ⟨rfl, (Qt.refl w).drewN 1⟩
theorem powArm_calls (g : Nat) (S : Nat → Prop) (s : DSt) (gl cap bm n : Nat) (f : Int → Option Value) (x : Int) (w : World) (h : DevX w g S s gl cap bm n f) (hx : InK .i64 x) :
    Calls Try.prog 60 #[.pointer (some ⟨g, 0, none⟩), .int .i64 x] w fun e w' => e = .returned (.tuple #[]) ∧ DevX w' g S { s with armed := decide (0 ≤ x), left := x } gl cap bm n f ∧ UpX (fun b => b = g) w w' := by
  have g1 : w.cell? ⟨g, 1, none⟩ = some (.bool s.armed) := h.b.cell 1
  have g2 : w.cell? ⟨g, 2, none⟩ = some (.int .i64 s.left) := h.b.cell 2
  have f1 := h.b.frozen 1
  have f2 := h.b.frozen 2
  have H1 := Lib.hid fun x => h.b.set 2 (.int .i64 x)
  have H3 := Lib.hid (fun w' s' hu hb hp hw hwr hl => h.cells (w' := w') (s' := s') hu hb hp hw hwr hl)
  have HB := Lib.hid ((h.b.set 1 (.bool (decide (0 ≤ x)))).set 2 (.int .i64 x))
  clear h
  go_enter Try.func60, Try.ntmps60
  go_wp2_with fail
  refine bodyPost_end (results_none rfl _ _ _) rfl ?_
  have hu : UpX (fun b => b = g) w ((w.setCell ⟨g, 1, none⟩ (.bool (decide (0 ≤ x)))).setCell ⟨g, 2, none⟩ (.int .i64 x)) := (UpX.one w g 1 _).trans (UpX.one _ g 2 _)
  exact ⟨rfl, H3.out _ { s with armed := decide (0 ≤ x), left := x } hu HB.out rfl rfl (Nat.le_refl _) hx, hu⟩
/-- Its map, looked into, in a region that draws its order. -/
theorem tree_lookup {P : Program} {ops : Array Oper} {C : World → Prop} {Q : Act → World → Prop} {dst : Option Tmp} {ty : TypeId} {pos : String} {after : Array Edge} {guard : Option (Nat × Bool)}
    {t : TypeId} {m x : Operand} {r : Tree Oper} {a : Act} {w : World} (bm : Nat) (key : Int) (v : Value)
    (hg : Region.wanted { dst := dst, op := .lookup t m x false, type := ty, pos := pos, after := after, guard := guard } (yielded ops a.tmps) = true) (hm : a.eval m = .map (some bm)) (hx : a.eval x = .int .i64 key)
    (hv : ∀ w', C w' → (Instr.lookup t (.map (some bm)) (.int .i64 key) false).run P w' = .ok v w')
    (h : wpTree P ops C Q r (a.put dst v) w) :
    wpTree P ops C Q (.quiet { dst := dst, op := .lookup t m x false, type := ty, pos := pos, after := after, guard := guard } r) a w := by
  refine ⟨_, .inl ⟨hg, fun w' hw => ?_⟩, h⟩
  simp only [execOp, hx, hm]
  simp [hv w' hw, Result.andThen]
end Go.Proofs.Ytehdigkjbobndaa

/- Layer 3: Write. -/
namespace Go.Proofs.Ytehdigkjbobndaa
open Go.RowKit
set_option maxRecDepth 100000

theorem devErr_ok {s : DSt} {no : Int} (h0 : s.off = false) (h1 : 0 ≤ no) (h2 : no < (s.pg.length : Int)) : devErr s no = 0 := by
  unfold devErr
  rw [h0, if_neg (by simp), if_neg (by omega)]
theorem devErr_zero {s : DSt} {no : Int} (h : devErr s no = 0) : s.off = false ∧ 0 ≤ no ∧ no < (s.pg.length : Int) := by
  unfold devErr at h
  split at h
  · omega
  · split at h
    · omega
    · rename_i h1 h2
      exact ⟨by simpa using h1, by omega, by omega⟩
/-- What Write answers, and what the device is behind it. -/
def devWriteR (s : DSt) (no : Int) (l : List Int) : Int := if devErr s no ≠ 0 then devErr s no else if l.length ≠ 256 then 2 else if useOk s then 0 else 9
def devWriteS (s : DSt) (no : Int) (l : List Int) : DSt :=
  if devErr s no ≠ 0 ∨ l.length ≠ 256 then s else if useOk s then { useS s with wr := s.wr + 1, wt := fun q => if q = no then s.wt no ++ [l] else s.wt q } else useS s
/-- A device behind a call: its blocks are old ones or new ones. -/
structure DevTo (w : World) (g : Nat) (S : Nat → Prop) (s' : DSt) (w' : World) : Prop where mk ::
  out : ∃ S', DevI w' g S' s' ∧ UpX S w w' ∧ ∀ b, S' b → S b ∨ w.heap.size ≤ b
theorem useS_pg (s : DSt) : (useS s).pg = s.pg ∧ (useS s).wt = s.wt ∧ (useS s).wr = s.wr ∧ (useS s).rd = s.rd ∧ (useS s).sy = s.sy := by
  unfold useS
  split <;> exact ⟨rfl, rfl, rfl, rfl, rfl⟩
set_option maxHeartbeats 1000000 in
theorem devWrite_bad (g : Nat) (S : Nat → Prop) (s : DSt) (no : Int) (A : Option Addr) (c : Nat) (l : List Int) (w : World) (h : DevI w g S s) (hr : Rd w .u8 A c l) (hb : devErr s no ≠ 0 ∨ l.length ≠ 256 ∨ useOk s = false) :
    Calls Try.prog 19 #[.pointer (some ⟨g, 0, none⟩), .int .i64 no, .slice A l.length c] w fun e w' => e = .returned (.int .i64 (devWriteR s no l)) ∧ DevTo w g S (devWriteS s no l) w' := by
  have H1 := Lib.hid (devCheck_calls g S s no w h)
  have hdt : DevTo w g S s w := ⟨S, h, UpX.refl _ _, fun b hb => .inl hb⟩
  by_cases he : devErr s no = 0
  · rw [he] at H1
    by_cases hl : l.length = 256
    · have hu : useOk s = false := by rcases hb with hb | hb | hb; exact absurd he hb; exact absurd hl hb; exact hb
      have hres : devWriteR s no l = 9 := by unfold devWriteR; rw [he, hl, hu]; simp
      have hres2 : devWriteS s no l = useS s := by unfold devWriteS; rw [he, hl, hu]; simp
      rw [hres, hres2]
      obtain ⟨gl, cap, bm, n, f, hx⟩ := h.out
      have HU := Lib.hid (powUse_calls g S s gl cap bm n f w hx)
      rw [hu] at HU
      have HS := Lib.hid hx.sg
      have hnot : ∀ (x : Bool) (w : World), (Op.unary .not (.bool x)).run Try.prog w = .ok (.bool (!x)) w := fun _ _ => rfl
      rw [hl]
      clear hb hdt hr hl he hu hres hres2 hx h
      go_enter Try.func19, Try.ntmps19
      go_wp2_with fail
      refine (H1.out).mono ?_
      rintro en w1 ⟨rfl, rfl⟩
      go_wp2_with fail
      refine (HU.out).mono ?_
      rintro en w2 ⟨rfl, hd, hx⟩
      have HF := Lib.hid (show DevTo w1 g S (useS s) w2 from ⟨S, ⟨_, _, _, _, _, hd⟩, hx.mono fun k _ e => by subst e; exact HS.out, fun b hb => .inl hb⟩)
      clear hd hx HU H1
      go_wp2_with fail
      go_ret
      exact ⟨rfl, HF.out⟩
    · have hres : devWriteR s no l = 2 := by unfold devWriteR; rw [he]; simp [hl]
      have hres2 : devWriteS s no l = s := by unfold devWriteS; rw [if_pos (.inr hl)]
      rw [hres, hres2]
      have hlen := hr.len
      have hlb : ((l.length : Int) != 256) = true := by simp; omega
      clear hb h hr he hres hres2
      generalize l.length = m at *
      have HF := Lib.hid hdt
      clear hdt
      go_enter Try.func19, Try.ntmps19
      go_wp2_with fail
      refine (H1.out).mono ?_
      rintro en w1 ⟨rfl, rfl⟩
      go_wp2_with fail
      go_ret
      exact ⟨rfl, HF.out⟩
  · have hres : devWriteR s no l = devErr s no := by unfold devWriteR; rw [if_pos he]
    have hres2 : devWriteS s no l = s := by unfold devWriteS; rw [if_pos (.inl he)]
    rw [hres, hres2]
    have hen : (devErr s no != 0) = true := by simp [he]
    have HF := Lib.hid hdt
    clear hb hres hres2 hdt hr h
    generalize devErr s no = er at *
    generalize l.length = m at *
    go_enter Try.func19, Try.ntmps19
    go_wp2_with fail
    refine (H1.out).mono ?_
    rintro en w1 ⟨rfl, rfl⟩
    go_wp2_with fail
    go_ret
    exact ⟨rfl, HF.out⟩
/-- One version more waits. -/
theorem DevX.wrote {w w' : World} {g : Nat} {S : Nat → Prop} {s : DSt} {gl cap bm n : Nat} {f : Int → Option Value} (h : DevX w g S s gl cap bm n f) (no : Int) (l : List Int) (v0 v5 : Value) (vs : List Value) (h0 : v0 = (f no).getD (.slice none 0 0))
    (hno : 0 ≤ no ∧ no < (s.pg.length : Int)) (hl : l.length = 256) (hn : n + 1 ≤ s.wr) (hwm : (s.wt no).length + 1 ≤ s.wr) (hx : UpX (fun b => v0.ownBlock = some b ∨ b = bm) w w') (hv : OwnV w' 0 22 v5 vs)
    (hvals : Vals (fun b => (S b ∨ (w.heap.size ≤ b ∧ b < w'.heap.size)) ∧ b ≠ gl ∧ Typed w' 5 b) w' .u8 vs (s.wt no ++ [l])) (hblk : ∀ b, v5.ownBlock = some b → v0.ownBlock = some b ∨ w.heap.size ≤ b)
    (hm : MapI Try.prog 3 w' bm (n + 1) (fun y => if y = no then some v5 else f y)) :
    DevX w' g (fun b => S b ∨ (w.heap.size ≤ b ∧ b < w'.heap.size)) { s with wt := fun q => if q = no then s.wt no ++ [l] else s.wt q } gl cap bm (n + 1) (fun y => if y = no then some v5 else f y) := by
  have hv0 : ∀ b, v0.ownBlock = some b → f no = some v0 := fun b hb => by
    cases hf : f no with
    | none => rw [hf] at h0; rw [h0] at hb; simp [Value.ownBlock] at hb
    | some v => rw [hf] at h0; rw [h0]; rfl
  have hng : ∀ b, v0.ownBlock = some b → b ≠ g ∧ b ≠ gl ∧ b ≠ bm := fun b hb => h.spine (hv0 b hb) b hb
  have ho := h.ok
  have hold : ∀ p v, p ≠ no → f p = some v → ∀ b, v.ownBlock = some b → ¬ (v0.ownBlock = some b ∨ b = bm) := fun p v hp hf b hb e => by
    rcases e with e | e
    · exact h.wts.sep p no v v0 hf (hv0 b e) hp b hb e
    · exact (h.spine hf b hb).2.2 e
  have hinS : ∀ p v, f p = some v → ∀ b, v.ownBlock = some b → S b := fun p v hf b hb => by
    rcases h.wts.at_ p with ⟨h1, _⟩ | ⟨v', h1, _, h2⟩
    · rw [hf] at h1; cases h1
    · rw [hf] at h1
      obtain rfl := Option.some.inj h1
      obtain ⟨_, _, _, h4⟩ := h2.out
      exact h4 b hb
  refine ⟨h.b.upx hx (fun e => ?_), h.laid.upx hx (fun b hb e => ?_), hm, hn, ⟨fun p => ?_, fun p q u v hu hv' hpq b hb hb' => ?_⟩, .inl h.sg, .inl h.sgl, .inl h.sbm, h.ne1, h.ne2, h.ne3, fun b hb => ?_, ⟨ho.len, ho.one, ho.most, fun p k hk => ?_, fun p hp => ?_, ho.left, fun p => ?_⟩⟩
  · rcases e with e | e
    · exact (hng _ e).1 rfl
    · exact h.ne2 e
  · simp only [Value.ownBlock, Option.some.injEq] at hb
    subst hb
    rcases e with e | e
    · exact (hng _ e).2.1 rfl
    · exact h.ne3 e
  · by_cases hp : p = no
    · subst hp
      simp only [if_true]
      refine .inr ⟨v5, rfl, by simp, ⟨vs, hv, hvals, fun b hb => ?_⟩⟩
      rcases hblk b hb with h1 | h1
      · exact .inl (hinS _ _ (hv0 b h1) b h1)
      · exact .inr ⟨h1, (hv.lt b hb).2⟩
    · simp only [if_neg hp]
      refine (h.wts.at_ p).imp id fun ⟨v, h1, h2, h3⟩ => ⟨v, h1, h2, (h3.upx hx (fun b hb => hold p v hp h1 b hb) fun b _ _ ht e => ?_).mono fun b hb => .inl hb⟩
      rcases e with e | e
      · exact (h.content ht).2.2 _ _ (hv0 b e) e
      · exact (h.content ht).2.1 e
  · have key : ∀ p v, p ≠ no → f p = some v → ∀ b, v.ownBlock = some b → ¬ v5.ownBlock = some b := fun p v hp hf b hb e => by
      rcases hblk b e with h1 | h1
      · exact hold p v hp hf b hb (.inl h1)
      · have := h.lt b (hinS p v hf b hb); omega
    by_cases hp : p = no
    · have hq : q ≠ no := fun e => hpq (hp.trans e.symm)
      rw [if_pos hp] at hu
      rw [if_neg hq] at hv'
      obtain rfl := Option.some.inj hu
      exact key q v hq hv' b hb' hb
    · rw [if_neg hp] at hu
      by_cases hq : q = no
      · rw [if_pos hq] at hv'
        obtain rfl := Option.some.inj hv'
        exact key p u hp hu b hb hb'
      · rw [if_neg hq] at hv'
        exact h.wts.sep p q u v hu hv' hpq b hb hb'
  · rcases hb with hb | hb
    · exact Nat.lt_of_lt_of_le (h.lt b hb) hx.size
    · exact hb.2
  · simp only at hk
    split at hk
    · rcases List.mem_append.1 hk with hk | hk
      · exact ho.wlen _ _ hk
      · rw [List.mem_singleton.1 hk]; exact hl
    · exact ho.wlen _ _ hk
  · simp only at hp
    by_cases e : p = no
    · rw [e]; exact hno
    · rw [if_neg e] at hp; exact ho.win p hp
  · show (if p = no then s.wt no ++ [l] else s.wt p).length ≤ s.wr
    split
    · rw [List.length_append]; exact hwm
    · exact ho.wmax p
/-- What a page's entry holds: an own slice of the versions. -/
theorem DevX.entry {w : World} {g : Nat} {S : Nat → Prop} {s : DSt} {gl cap bm n : Nat} {f : Int → Option Value} (h : DevX w g S s gl cap bm n f) (no : Int) :
    ∃ vs, OwnV w 0 22 ((f no).getD (.slice none 0 0)) vs ∧ Vals (fun b => S b ∧ b ≠ gl ∧ Typed w 5 b) w .u8 vs (s.wt no) := by
  rcases h.wts.at_ no with ⟨h1, h2⟩ | ⟨v, h1, _, h3⟩
  · rw [h1, h2]
    exact ⟨[], OwnV.nil _ _ _, Vals.nil _ _ _⟩
  · obtain ⟨vs, h4, h5, _⟩ := h3.out
    rw [h1]
    exact ⟨vs, h4, h5⟩
theorem DevX.look {w : World} {g : Nat} {S : Nat → Prop} {s : DSt} {gl cap bm n : Nat} {f : Int → Option Value} (h : DevX w g S s gl cap bm n f) (no : Int) (hk : InK .i64 no) :
    (Instr.lookup 91 (.map (some bm)) (.int .i64 no) false).run Try.prog w = .ok ((f no).getD (.slice none 0 0)) w :=
  (h.map.look Try.underlying3 Try.underlying91 (show (zeroValue 55).run Try.prog w = .ok (.slice none 0 0) w by rfl) no hk).2
set_option maxHeartbeats 2000000 in
theorem devWrite_ok (g : Nat) (S : Nat → Prop) (s : DSt) (no : Int) (A : Option Addr) (c : Nat) (l : List Int) (w : World) (h : DevI w g S s) (hr : Rd w .u8 A c l) (he : devErr s no = 0) (hl : l.length = 256) (hu : useOk s = true) (hwr : s.wr < 1000000000000) (hAS : ∀ ad, A = some ad → ¬ S ad.block) :
    Calls Try.prog 19 #[.pointer (some ⟨g, 0, none⟩), .int .i64 no, .slice A 256 c] w fun e w' => e = .returned (.int .i64 0) ∧ DevTo w g S (devWriteS s no l) w' := by
  have H1 := Lib.hid (devCheck_calls g S s no w h)
  rw [he] at H1
  have hres2 : devWriteS s no l = { useS s with wr := s.wr + 1, wt := fun q => if q = no then s.wt no ++ [l] else s.wt q } := by unfold devWriteS; rw [he, hl, hu]; simp
  rw [hres2]
  obtain ⟨gl, cap, bm, n, f, hx⟩ := h.out
  have HU := Lib.hid (powUse_calls g S s gl cap bm n f w hx)
  rw [hu] at HU
  have HS := Lib.hid hx.sg
  have hnot : ∀ (x : Bool) (w : World), (Op.unary .not (.bool x)).run Try.prog w = .ok (.bool (!x)) w := fun _ _ => rfl
  have HWR := Lib.hid hwr
  have HL := Lib.hid hl
  have HA := Lib.hid hAS
  have HE := Lib.hid he
  have HX := Lib.hid hx.ok
  clear hl he hu hres2 hx h hwr hAS
  go_enter Try.func19, Try.ntmps19
  go_wp2_with fail
  refine (H1.out).mono ?_
  rintro en w1 ⟨rfl, rfl⟩
  go_wp2_with fail
  refine (HU.out).mono ?_
  rintro en w2 ⟨rfl, hd, hx⟩
  clear HU H1
  have g4 : w2.cell? ⟨g, 4, none⟩ = some (.int .i64 (useS s).wr) := hd.b.cell 4
  have hr2 : Rd w2 .u8 A c l := hr.upx hx fun ad e _ e2 => HA.out ad e (by rw [e2]; exact HS.out)
  have HADD := Lib.hid (atomAdd_calls ⟨g, 4, none⟩ (useS s).wr w2 g4 (hd.b.frozen 4) (by omega) (by rw [(useS_pg s).2.2.1]; have := HWR.out; omega))
  have HD := Lib.hid hd
  clear hr g4
  go_wp2_with fail
  refine (HADD.out).mono ?_
  rintro en w3 ⟨rfl, he3⟩
  have hx3 : UpX (fun b => b = g) w2 w3 := by rw [he3]; exact UpX.one _ _ _ _
  have hd3 : DevX w3 g S { useS s with wr := (useS s).wr + 1 } gl cap bm n f := HD.out.cells hx3 (by rw [he3]; have := HD.out.b.set 4 (.int .i64 ((useS s).wr + 1)); simpa [devCells] using this) rfl rfl (by simp) HD.out.ok.left
  have hn3 : n + 1 ≤ (useS s).wr + 1 := by have := HD.out.nle; omega
  have hr3 : Rd w3 .u8 A c l := hr2.upx hx3 fun ad e _ e2 => HA.out ad e (by rw [e2]; exact HS.out)
  clear he3 HADD HD hr2 hd
  obtain ⟨hno, hno0, hno1⟩ := devErr_zero HE.out
  have hik : InK .i64 no := InK.of_i64 (by omega) (by have := HX.out.most; omega)
  obtain ⟨vs, hvs, hvals⟩ := hd3.entry no
  have g7 : w3.cell? ⟨g, 7, none⟩ = some (.map (some bm)) := hd3.b.cell 7
  obtain ⟨v0, hv0⟩ : ∃ v0, (f no).getD (.slice none 0 0) = v0 := ⟨_, rfl⟩
  rw [hv0] at hvs
  have hsp : ∀ b, v0.ownBlock = some b → b ≠ g ∧ b ≠ gl ∧ b ≠ bm := fun b hb => by
    cases hf : f no with
    | none => rw [hf] at hv0; rw [← hv0] at hb; simp [Value.ownBlock] at hb
    | some v => rw [hf] at hv0; rw [← hv0] at hb; exact hd3.spine hf b hb
  have hlk : ∀ w', UpX (fun b => v0.ownBlock = some b) w3 w' → (Instr.lookup 91 (.map (some bm)) (.int .i64 no) false).run Try.prog w' = .ok v0 w' := fun w' hu => by
    have := (hd3.map.upx hu (fun e => (hsp _ e).2.2 rfl)).look Try.underlying3 Try.underlying91 (show (zeroValue 55).run Try.prog w' = .ok (.slice none 0 0) w' by rfl) no hik
    rw [this.2, hv0]
  go_wp2_with fail
  refine wp_region_tree (fun w' => UpX (fun b => v0.ownBlock = some b) w3 w') (.quiet 0 (.quiet 1 (.quiet 2 (.quiet 3 (.quiet 4 (.quiet 5 (.quiet 6 (.quiet 7 (.quiet 8 (.quiet 9 (.quiet 10 (.quiet 11 (.alt 12 (.alt 13 (.alt 14 (.alt 15 (.nil) (.stop)) (.stop)) (.stop)) (.stop)))))))))))))) (by kernel_rfl) (by kernel_rfl) rfl (by kernel_rfl) (by kernel_rfl) ((UpX.refl _ w3).drew) ?_
  simp only [pickT, List.getElem?_cons_succ, List.getElem?_cons_zero, Option.getD_some]
  repeat (refine tree_step rfl (fun K hK => ?_); go_big_quiet_step ((intro _; rfl)); refine wpQuiet_nil (hK _ ?_); clear hK K)
  refine tree_load ⟨g, 7, none⟩ (.map (some bm)) (by kernel_rfl) rfl (by kernel_rfl) (fun w' h => h.cell g7 (fun e => (hsp _ e).1 rfl)) ?_
  dsimp only [Act.put]
  simp only [List.setIfInBounds_toArray, List.set_cons_zero, List.set_cons_succ]
  repeat (refine tree_step rfl (fun K hK => ?_); go_big_quiet_step ((intro _; rfl)); refine wpQuiet_nil (hK _ ?_); clear hK K)
  refine tree_load ⟨g, 7, none⟩ (.map (some bm)) (by kernel_rfl) rfl (by kernel_rfl) (fun w' h => h.cell g7 (fun e => (hsp _ e).1 rfl)) ?_
  dsimp only [Act.put]
  simp only [List.setIfInBounds_toArray, List.set_cons_zero, List.set_cons_succ]
  repeat (refine tree_step rfl (fun K hK => ?_); go_big_quiet_step ((intro _; rfl)); refine wpQuiet_nil (hK _ ?_); clear hK K)
  refine tree_lookup bm no v0 (by kernel_rfl) rfl rfl hlk ?_
  dsimp only [Act.put]
  simp only [List.setIfInBounds_toArray, List.set_cons_zero, List.set_cons_succ]
  repeat (refine tree_step rfl (fun K hK => ?_); go_big_quiet_step ((intro _; rfl)); refine wpQuiet_nil (hK _ ?_); clear hK K)
  refine tree_do (fun K hK => ?_)
  have hr4 : Rd w3.drew .u8 A c l := hr3.drewN 1
  go_wp2_with fail
  refine (bytesClone_n hr4 (by have := HL.out; omega) HL.out.symm).mono ?_
  rintro en w4 ⟨v4, rfl, hv4, hu4⟩
  have hU4 : Up w3 w4 := ((Up.refl w3).drew).trans hu4
  obtain ⟨B4, c4, rfl, hr5⟩ := hv4.rd
  have hB4 : ∀ b, (Value.slice B4 l.length c4).ownBlock = some b → w3.heap.size ≤ b ∧ b < w4.heap.size ∧ Typed w4 5 b := fun b hb => ⟨(hv4.lt b hb).1, (hv4.lt b hb).2, hv4.typed b hb⟩
  have hB5 : ∀ ad, B4 = some ad → (Value.slice B4 l.length c4).ownBlock = some ad.block := fun ad e => by
    subst e
    rcases hv4.row.2 with ⟨h0, _⟩ | ⟨g', cap', cur', h0, _⟩
    · cases h0
    · injection h0 with h0 _ _
      injection h0 with h0
      subst h0
      rfl
  have HV4 := Lib.hid hv4
  clear hv4 hu4 hr4 hr3
  go_wp2_with fail
  refine ⟨hU4.x _, ?_⟩
  repeat (refine tree_step rfl (fun K hK => ?_); go_big_quiet_step ((intro _; rfl)); refine wpQuiet_nil (hK _ ?_); clear hK K)
  refine tree_do (fun K hK => ?_)
  go_wp2_with fail
  have hU5 : Up w4 (w4.alloc (.cells #[Value.slice B4 l.length c4] 22)) := (Up.refl w4).alloc _
  have hc5 : (w4.alloc (.cells #[Value.slice B4 l.length c4] 22)).cell? ⟨w4.heap.size, 0, none⟩ = some (.slice B4 l.length c4) := (Blk.new w4 22 #[Value.slice B4 l.length c4]).cell 0
  have hs5 : (w4.alloc (.cells #[Value.slice B4 l.length c4] 22)).heap.size = w4.heap.size + 1 := by simp
  refine ⟨(hU4.trans hU5).x _, ?_⟩
  generalize (w4.alloc (.cells #[Value.slice B4 l.length c4] 22)) = w5 at *
  repeat (refine tree_step rfl (fun K hK => ?_); go_big_quiet_step ((intro _; rfl)); refine wpQuiet_nil (hK _ ?_); clear hK K)
  refine tree_do (fun K hK => ?_)
  have hvs5 : OwnV w5 0 22 v0 vs := hvs.up (hU4.trans hU5)
  have hvl : vs.length < 1000000000000 := by
    rw [hvals.len, (useS_pg s).2.1]
    have := HX.out.wmax no
    have := HWR.out
    omega
  go_wp2_with (refine wpl_appendV2 0 22 (.slice none 0 0) 24 Try.underlying55 (by kernel_rfl) rfl v0 vs rfl hvs5 ⟨w4.heap.size, 0, none⟩ 1 1 [.slice B4 l.length c4] rfl rfl (fun j u hu => by cases j with | zero => (injection hu with hu; subst hu; rw [show (⟨w4.heap.size, 0, none⟩ : Addr).add 0 = ⟨w4.heap.size, 0, none⟩ by rfl]; exact hc5) | succ j => simp at hu) (fun u hu => by rw [List.mem_singleton.1 hu]; rfl) (by simp; omega) (by decide) (by omega) ?_; intro v6 w6 hv6 hx6 hn6)
  refine ⟨((hU4.trans hU5).x _).trans hx6, ?_⟩
  repeat (refine tree_step rfl (fun K hK => ?_); go_big_quiet_step ((intro _; rfl)); refine wpQuiet_nil (hK _ ?_); clear hK K)
  refine tree_do (fun K hK => ?_)
  have hX6 : UpX (fun b => v0.ownBlock = some b) w3 w6 := ((hU4.trans hU5).x _).trans hx6
  have hm6 : MapI Try.prog 3 w6 bm n f := hd3.map.upx hX6 (fun e => (hsp _ e).2.2 rfl)
  have hnm : n < maxLen := by have := hd3.nle; simp only [(useS_pg s).2.2.1] at this; have := HWR.out; simp only [maxLen]; omega
  go_wp2_with (refine wpl_mapPut w6 rfl _ _ _ 91 rfl 3 55 Try.underlying3 Try.underlying91 bm n f rfl hm6 hnm no v6 rfl hik rfl ?_; intro w7 hm7 hx7)
  refine ⟨trivial, ?_⟩
  refine tree_nil ?_
  go_wp2_with fail
  go_ret
  have hu5 : Up w3 w5 := hU4.trans hU5
  have hX7 : UpX (fun b => v0.ownBlock = some b ∨ b = bm) w3 w7 := (hX6.mono fun b _ e => .inl e).trans (hx7.mono fun b _ e => .inr e)
  have hsz6 := hx6.size
  have hsz7 := hx7.size
  have hsz4 := hU4.size
  have hv0b : ∀ b, v0.ownBlock = some b → Typed w3 22 b ∧ b < w3.heap.size := fun b hb => ⟨hvs.typed b hb, (hvs.lt b hb).2⟩
  have hv6m : ∀ b, v6.ownBlock = some b → ¬ b = bm := fun b hb e => by
    subst e
    exact hm6.typed (hv6.typed b hb)
  have hb4 : ∀ ad, B4 = some ad → w3.heap.size ≤ ad.block ∧ ad.block < w4.heap.size := fun ad e => ⟨(hB4 _ (hB5 ad e)).1, (hB4 _ (hB5 ad e)).2.1⟩
  have hbm : bm < w3.heap.size := hd3.map.lt
  have hvals7 : Vals (fun b => (S b ∨ (w3.heap.size ≤ b ∧ b < w7.heap.size)) ∧ b ≠ gl ∧ Typed w7 5 b) w7 .u8 (vs ++ [.slice B4 l.length c4]) ((useS s).wt no ++ [l]) := by
    have hc : ∀ b, S b ∧ b ≠ gl ∧ Typed w3 5 b → ¬ (v0.ownBlock = some b ∨ b = bm) := fun b hb e => by
      rcases e with e | e
      · have := (hv0b b e).1.ne hb.2.2; cases this
      · subst e; exact hd3.map.typed hb.2.2
    have h1 : Vals (fun b => (S b ∨ (w3.heap.size ≤ b ∧ b < w7.heap.size)) ∧ b ≠ gl ∧ Typed w7 5 b) w7 .u8 vs ((useS s).wt no) := (hvals.upx hX7 hc).mono fun b hb => ⟨.inl hb.1, hb.2.1, hb.2.2.upx hX7 (hc b hb)⟩
    have h2 : UpX (fun b => v0.ownBlock = some b ∨ b = bm) w4 w7 := ((hU5.x _).trans (hx6.mono fun b _ e => .inl e)).trans (hx7.mono fun b _ e => .inr e)
    have h3 : ∀ ad, B4 = some ad → ¬ (v0.ownBlock = some ad.block ∨ ad.block = bm) := fun ad e e2 => by
      have := hb4 ad e
      rcases e2 with e2 | e2
      · have := (hv0b _ e2).2; omega
      · omega
    refine h1.snoc (hr5.upx h2 fun ad e _ => h3 ad e) rfl fun ad e _ => ⟨.inr ⟨(hb4 ad e).1, by have := (hb4 ad e).2; omega⟩, fun e2 => ?_, ((hB4 _ (hB5 ad e)).2.2).upx h2 (h3 ad e)⟩
    have := hd3.lt gl hd3.sgl
    have := (hb4 ad e).1
    omega
  have hv7 : OwnV w7 0 22 v6 (vs ++ [.slice B4 l.length c4]) := hv6.upx hx7 hv6m
  have hfin := hd3.wrote no l v0 v6 _ hv0.symm ⟨hno0, by rw [(useS_pg s).1]; exact hno1⟩ HL.out (by simpa using hn3) (by
    show ((useS s).wt no).length + 1 ≤ (useS s).wr + 1
    rw [(useS_pg s).2.1, (useS_pg s).2.2.1]
    have := HX.out.wmax no
    omega) hX7 hv7 hvals7 (fun b hb => by
      rcases hn6.blocks b hb with h1 | h1
      · exact .inl h1
      · exact .inr (by omega)) hm7
  simp only [(useS_pg s).2.1, (useS_pg s).2.2.1] at hfin
  refine ⟨rfl, ⟨_, ⟨_, _, _, _, _, hfin⟩, ?_, fun b hb => ?_⟩⟩
  · have hS0 : ∀ b, v0.ownBlock = some b ∨ b = bm → S b := fun b e => by
      rcases e with e | e
      · cases hf : f no with
        | none => rw [hf] at hv0; rw [← hv0] at e; simp [Value.ownBlock] at e
        | some v =>
          rw [hf] at hv0
          rcases hd3.wts.at_ no with ⟨h1, _⟩ | ⟨v', h1, _, h2⟩
          · rw [hf] at h1; cases h1
          · rw [hf] at h1
            obtain rfl := Option.some.inj h1
            obtain ⟨_, _, _, h4⟩ := h2.out
            have e9 : v = v0 := hv0
            exact h4 b (e9 ▸ e)
      · subst e; exact hd3.sbm
    have hg : ∀ b, b = g → S b := fun b e => by subst e; exact HS.out
    exact (((hx.mono fun b _ e => hg b e).trans (hx3.mono fun b _ e => hg b e))).trans (hX7.mono fun b _ e => hS0 b e)
  · rcases hb with hb | hb
    · exact .inl hb
    · exact .inr (by have := hx.size; have := hx3.size; omega)
end Go.Proofs.Ytehdigkjbobndaa

/- Layer 3: Read, Image. -/
namespace Go.Proofs.Ytehdigkjbobndaa
open Go.RowKit
set_option maxRecDepth 100000

theorem flat_page {m : Nat} : ∀ (pg : List (List Int)) (no : Nat), (∀ p ∈ pg, p.length = m) → no < pg.length → (pg.flatten.take (m * no + m)).drop (m * no) = pg.getD no []
  | [], no, _, h => by simp at h
  | p :: pg, 0, h, _ => by
    have := h p (List.mem_cons_self ..)
    rw [List.flatten_cons, Nat.mul_zero, Nat.zero_add, List.drop_zero, ← this, List.take_left']
    · rfl
    · rfl
  | p :: pg, no + 1, h, hl => by
    have hp := h p (List.mem_cons_self ..)
    have ih := flat_page pg no (fun q hq => h q (List.mem_cons_of_mem _ hq)) (by simpa using hl)
    rw [List.flatten_cons, show m * (no + 1) + m = p.length + (m * no + m) by rw [hp, Nat.mul_succ]; omega, show m * (no + 1) = p.length + m * no by rw [hp, Nat.mul_succ]; omega,
      List.take_length_add_append, List.drop_length_add_append, ih]
    rfl
theorem DevX.page {w : World} {g : Nat} {S : Nat → Prop} {s : DSt} {gl cap bm n : Nat} {f : Int → Option Value} (h : DevX w g S s gl cap bm n f) (no : Nat) (hn : no < s.pg.length) : Rd w .u8 (some ⟨gl, 256 * no, none⟩) (cap - 256 * no) (s.pg.getD no []) ∧ (s.pg.getD no []).length = 256 := by
  have hcap := h.cap
  have hlen := flatten_len h.ok.len
  obtain ⟨A, c, e, hr⟩ := h.laid.rd
  injection e with e1 _ e3
  subst e1 e3
  have := hr.cut (256 * no) (256 * no + 256) cap (by omega) (by omega) (by omega) (Nat.le_refl _)
  rw [flat_page _ _ h.ok.len hn, if_neg (by omega)] at this
  have ea := add_lit0 gl (256 * no)
  simp only [Option.map_some, ea] at this
  refine ⟨this, ?_⟩
  rw [List.getD_eq_getElem?_getD, List.getElem?_eq_getElem hn]
  exact h.ok.len _ (List.getElem_mem hn)
/-- What a page reads. -/
def devSees (s : DSt) (no : Nat) : List Int := if s.wt no = [] then s.pg.getD no [] else (s.wt no).getD ((s.wt no).length - 1) []
theorem devSees_len {s : DSt} (h : DOk s) {no : Nat} (hn : no < s.pg.length) : (devSees s no).length = 256 := by
  unfold devSees
  split
  · rw [List.getD_eq_getElem?_getD, List.getElem?_eq_getElem hn]
    exact h.len _ (List.getElem_mem hn)
  · rename_i hw
    have h0 : 0 < (s.wt no).length := List.length_pos_iff.2 hw
    rw [List.getD_eq_getElem?_getD, List.getElem?_eq_getElem (by omega)]
    exact h.wlen no _ (List.getElem_mem _)
set_option maxHeartbeats 1000000 in
theorem devImage_calls (g : Nat) (S : Nat → Prop) (s : DSt) (w : World) (h : DevI w g S s) :
    Calls Try.prog 16 #[.pointer (some ⟨g, 0, none⟩)] w (RetOwn w 5 .u8 s.pg.flatten) := by
  obtain ⟨gl, cap, bm, n, f, h⟩ := h.out
  have hlen := flatten_len h.ok.len
  have hm := h.ok.most
  have g6 : w.cell? ⟨g, 6, none⟩ = some (.slice (some ⟨gl, 0, none⟩) (256 * s.pg.length) cap) := h.b.cell 6
  obtain ⟨A, c, e, hr⟩ := h.laid.rd
  injection e with e1 e2 e3
  subst e1 e3
  clear e2
  have HC := Lib.hid (bytesClone_n hr (by omega) hlen.symm)
  clear hr h hlen
  go_enter Try.func16, Try.ntmps16
  go_wp2_with fail
  refine (HC.out).mono ?_
  rintro en w1 ⟨v, rfl, hv, hu⟩
  go_wp2_with fail
  go_ret
  exact RetOwn.of hv hu
set_option maxHeartbeats 1000000 in
theorem devRead_bad (g : Nat) (S : Nat → Prop) (s : DSt) (no : Int) (w : World) (h : DevI w g S s) (hb : devErr s no ≠ 0) :
    Calls Try.prog 17 #[.pointer (some ⟨g, 0, none⟩), .int .i64 no] w fun e w' => e = .returned (.tuple #[.slice none 0 0, .int .i64 (devErr s no)]) ∧ w' = w := by
  have H1 := Lib.hid (devCheck_calls g S s no w h)
  have hen : (devErr s no != 0) = true := by simp [hb]
  clear h hb
  generalize devErr s no = er at *
  go_enter Try.func17, Try.ntmps17
  go_wp2_with fail
  refine (H1.out).mono ?_
  rintro en w1 ⟨rfl, rfl⟩
  go_wp2_with fail
  go_ret2
  exact ⟨rfl, rfl⟩
/-- A page was read. -/
structure DevSeen (w : World) (g : Nat) (S : Nat → Prop) (s : DSt) (l : List Int) (en : Ending) (w' : World) : Prop where mk ::
  out : ∃ v, en = .returned (.tuple #[v, .int .i64 0]) ∧ Own w' w.heap.size 5 .u8 v l ∧ DevI w' g S { s with rd := s.rd + 1 } ∧ UpX (fun b => b = g) w w'
set_option maxHeartbeats 2000000 in
theorem devRead_ok (g : Nat) (S : Nat → Prop) (s : DSt) (no : Nat) (w : World) (h : DevI w g S s) (ho : s.off = false) (hn : no < s.pg.length) (hrd : s.rd < 1000000000000) :
    Calls Try.prog 17 #[.pointer (some ⟨g, 0, none⟩), .int .i64 no] w (DevSeen w g S s (devSees s no)) := by
  have H1 := Lib.hid (devCheck_calls g S s no w h)
  rw [devErr_ok ho (by omega) (by omega)] at H1
  obtain ⟨gl, cap, bm, n, f, hd⟩ := h.out
  have hmost := hd.ok.most
  have hik : InK .i64 (no : Int) := InK.of_i64 (by omega) (by omega)
  have g3 : w.cell? ⟨g, 3, none⟩ = some (.int .i64 s.rd) := hd.b.cell 3
  have HADD := Lib.hid (atomAdd_calls ⟨g, 3, none⟩ s.rd w g3 (hd.b.frozen 3) (by omega) (by omega))
  have HD := Lib.hid hd
  have HN := Lib.hid hn
  have HSL := Lib.hid (devSees_len hd.ok hn)
  clear h hd ho g3 hn hrd hmost
  go_enter Try.func17, Try.ntmps17
  go_wp2_with fail
  refine (H1.out).mono ?_
  rintro en w1 ⟨rfl, rfl⟩
  go_wp2_with fail
  refine (HADD.out).mono ?_
  rintro en w2 ⟨rfl, he⟩
  have hx : UpX (fun b => b = g) w1 w2 := by rw [he]; exact UpX.one _ _ _ _
  have hd : DevX w2 g S { s with rd := s.rd + 1 } gl cap bm n f := HD.out.cells hx (by rw [he]; have := HD.out.b.set 3 (.int .i64 (s.rd + 1)); simpa [devCells] using this) rfl rfl (Nat.le_refl _) HD.out.ok.left
  clear he HADD HD H1
  have g7 : w2.cell? ⟨g, 7, none⟩ = some (.map (some bm)) := hd.b.cell 7
  have hlk := hd.look (no : Int) hik
  have HSZ := Lib.hid hx.size
  rcases hd.wts.at_ (no : Int) with ⟨h1, h2⟩ | ⟨v, h1, h2, h3⟩
  · have hs : devSees s no = s.pg.getD no [] := by unfold devSees; rw [if_pos h2]
    have HP := Lib.hid (devPage_calls g S _ gl cap bm n f no w2 hd HN.out)
    obtain ⟨hpr, hpl⟩ := hd.page no HN.out
    rw [h1] at hlk
    simp only [Option.getD_none] at hlk
    have HC := Lib.hid (bytesClone_n hpr (by rw [hpl]; decide) hpl.symm)
    have HF := Lib.hid (show DevI w2 g S { s with rd := s.rd + 1 } from ⟨_, _, _, _, _, hd⟩)
    have HX := Lib.hid hx
    have HSS := Lib.hid hs
    clear hd hx hpr h1 h2 hs
    go_wp2_with fail
    refine (HP.out).mono ?_
    rintro en w3 ⟨rfl, rfl⟩
    go_wp2_with fail
    refine (HC.out).mono ?_
    rintro en w4 ⟨v, rfl, hv, hu⟩
    go_wp2_with fail
    go_ret2
    exact ⟨v, rfl, by rw [HSS.out]; exact hv.mono HSZ.out, HF.out.up hu, (HX.out).trans (hu.x _)⟩
  · have hs : devSees s no = (s.wt no).getD ((s.wt no).length - 1) [] := by unfold devSees; rw [if_neg h2]
    rw [h1] at hlk
    simp only [Option.getD_some] at hlk
    obtain ⟨A, c, rfl, hc, hrl⟩ := h3.slice
    have h0 : 0 < (s.wt no).length := List.length_pos_iff.2 h2
    obtain ⟨ad, l, A', c', rfl, hcl, hr, hlg⟩ := hrl.get ((s.wt no).length - 1) (by show (s.wt no).length - 1 < (s.wt no).length; omega)
    have hlen : ((devSees s no)).length = 256 := HSL.out
    have hll : devSees s no = l := by rw [hs]; exact hlg.out
    rw [hll] at hlen
    have HSS := Lib.hid hll
    have HC := Lib.hid (bytesClone_n hr (by omega) hlen.symm)
    have HF := Lib.hid (show DevI w2 g S { s with rd := s.rd + 1 } from ⟨_, _, _, _, _, hd⟩)
    have HX := Lib.hid hx
    have hmx := hrl.mx
    rw [hlen] at hcl
    clear hd hx h1 h2 h3 hs hll hlg hrl
    simp only at *
    generalize (s.wt no).length = m at *
    have hm1 : ((m : Int) - 1).toNat = m - 1 := by omega
    go_wp2_with fail
    refine (HC.out).mono ?_
    rintro en w4 ⟨v, rfl, hv, hu⟩
    go_wp2_with fail
    go_ret2
    exact ⟨v, rfl, by rw [HSS.out]; exact hv.mono HSZ.out, HF.out.up hu, (HX.out).trans (hu.x _)⟩
end Go.Proofs.Ytehdigkjbobndaa

/- Layer 3: Waiting. -/
namespace Go.Proofs.Ytehdigkjbobndaa
open Go.RowKit
set_option maxRecDepth 100000

theorem sumTo_le {f : Nat → Nat} {M : Nat} : ∀ {n : Nat}, (∀ i, i < n → f i ≤ M) → sumTo f n ≤ n * M
  | 0, _ => by simp [sumTo]
  | n + 1, h => by
    have := sumTo_le (n := n) fun i hi => h i (by omega)
    have := h n (by omega)
    rw [sumTo, Nat.succ_mul]
    omega
/-- How many versions were met. -/
def metSum (s : DSt) (L : Int → Bool) : Nat := sumTo (fun i => if L (i : Int) then 0 else (s.wt i).length) s.pg.length
theorem metSum_le {s : DSt} (h : DOk s) (hwr : s.wr < 1000000000000) (L : Int → Bool) : metSum s L ≤ 2048000000000000 := by
  have h1 : metSum s L ≤ s.pg.length * s.wr := sumTo_le fun i _ => by
    split
    · omega
    · exact h.wmax _
  have h2 : s.pg.length * s.wr ≤ 2048 * 1000000000000 := Nat.mul_le_mul h.most (by omega)
  omega
theorem metSum_step {s : DSt} (h : DOk s) (L : Int → Bool) {x : Int} (hL : L x = true) (hw : s.wt x ≠ []) : metSum s (fun y => L y && !decide (y = x)) = metSum s L + (s.wt x).length := by
  obtain ⟨h0, h1⟩ := h.win x hw
  obtain ⟨i, rfl⟩ := Int.eq_ofNat_of_zero_le h0
  refine sumTo_one (p := i) (by omega) (fun j hj hne => ?_) ?_
  · have : decide ((j : Int) = (i : Int)) = false := decide_eq_false (by omega)
    simp only [this, Bool.not_false, Bool.and_true]
  · simp [hL]
set_option maxHeartbeats 1000000 in
theorem devWaiting_calls (g : Nat) (S : Nat → Prop) (s : DSt) (w : World) (h : DevI w g S s) (hwr : s.wr < 1000000000000) :
    Calls Try.prog 34 #[.pointer (some ⟨g, 0, none⟩)] w fun e w' => e = .returned (.int .i64 (sumTo (fun i => (s.wt i).length) s.pg.length : Nat)) ∧ Up w w' := by
  obtain ⟨gl, cap, bm, n, f, hd⟩ := h.out
  have g7 : w.cell? ⟨g, 7, none⟩ = some (.map (some bm)) := hd.b.cell 7
  have HO := Lib.hid hd.ok
  have HWR := Lib.hid hwr
  have HF := Lib.hid fun x v (e : f x = some v) => (show ∃ A c, v = .slice A (s.wt x).length c ∧ s.wt x ≠ [] by
    rcases hd.wts.at_ x with ⟨h1, _⟩ | ⟨v', h1, h2, h3⟩
    · rw [e] at h1; cases h1
    · rw [e] at h1
      obtain rfl := Option.some.inj h1
      obtain ⟨A, c, h4, _⟩ := h3.slice
      exact ⟨A, c, h4, h2⟩)
  have HN := Lib.hid fun x (e : f x = none) => (show s.wt x = [] by
    rcases hd.wts.at_ x with ⟨_, h2⟩ | ⟨v', h1, h2, h3⟩
    · exact h2
    · rw [e] at h1; cases h1)
  have hmap := hd.map
  clear h hwr hd
  go_enter Try.func34, Try.ntmps34
  go_wp2_with (refine wpl_mapRange w rfl _ 91 rfl 3 55 Try.underlying3 Try.underlying91 bm n f rfl hmap ?_; intro w1 cnt hr hu1 hsz1)
  dsimp only [Act.put]
  simp only [List.setIfInBounds_toArray, List.set_cons_zero, List.set_cons_succ]
  go_loopw [3, 5] (fun nv _ wr => ∃ (L : Int → Bool) (cnt : Nat), nv = .int .i64 (metSum s L : Nat) ∧ RngI Try.prog 3 wr bm w.heap.size n f L cnt ∧ Up w wr) (fun _ _ wr => wr.rangeLeft bm w.heap.size)
  case atStart => exact ⟨_, cnt, by
    refine congrArg (fun k : Nat => Value.int .i64 (k : Int)) ?_
    exact (sumTo_zero fun i _ => by
      show (if (f i).isSome = true then 0 else (s.wt i).length) = 0
      cases hf : f i with
      | none => rw [HN.out _ hf]; rfl
      | some v => rfl).symm, hr, hu1⟩
  case round =>
    obtain ⟨L, cnt', rfl, hr', hu'⟩ := hrel
    have hle := metSum_le HO.out HWR.out L
    have HST := Lib.hid fun x hL hw => metSum_step HO.out L (x := x) hL hw
    have HEND := Lib.hid fun (hl : ∀ x, InK .i64 x → L x = false) => (show metSum s L = sumTo (fun i => (s.wt i).length) s.pg.length from sumTo_congr fun i hi => by
      have := HO.out.most
      rw [hl i (InK.of_i64 (by omega) (by omega))]
      rfl)
    have HLE := Lib.hid fun L => metSum_le HO.out HWR.out L
    generalize hms : metSum s L = ms at *
    clear hr hu1
    go_wp2_with (refine wpl_mapNext wr rfl _ rfl 3 Try.underlying3 bm w.heap.size n f L cnt' rfl hr' ?_ ?_)
    · intro hc hl
      have HE := Lib.hid (HEND.out hl)
      clear hl HEND
      go_wp2_with fail
      go_ret
      exact ⟨by rw [← HE.out]; rfl, hu'⟩
    · intro x v w' cnt2 hx hL hfx hr2 hlt hux hsz hen
      obtain ⟨A, c, rfl, hw⟩ := HF.out x v hfx
      have HS2 := Lib.hid (HST.out x hL hw)
      have hle2 := HLE.out (fun y => L y && !decide (y = x))
      rw [HS2.out] at hle2
      have HR := Lib.hid hr2
      clear hr2 hL
      go_wp2_with fail
      go_roundw
      case rel => exact ⟨_, cnt2, by rw [HS2.out]; congr 1, HR.out, hu'.thenx hux fun i hi e => by omega⟩
      case measure => rw [HR.out.left_eq, hr'.left_eq]; exact hlt
end Go.Proofs.Ytehdigkjbobndaa

/- Layer 3: Sync. -/
namespace Go.Proofs.Ytehdigkjbobndaa
open Go.RowKit
set_option maxRecDepth 100000

theorem laid_flat {m : Nat} (ys : List Int) (hy : ys.length ≤ m) : ∀ (pg : List (List Int)) (no : Nat), (∀ p ∈ pg, p.length = m) → no < pg.length → Go.Proofs.Ytehdigkjbobndaa.laid pg.flatten (m * no) ys = (pg.set no (Go.Proofs.Ytehdigkjbobndaa.laid (pg.getD no []) 0 ys)).flatten
  | [], no, _, h => by simp at h
  | p :: pg, 0, h, _ => by
    have hp := h p (List.mem_cons_self ..)
    simp only [Go.Proofs.Ytehdigkjbobndaa.laid, List.flatten_cons, Nat.mul_zero, List.take_zero, List.nil_append, Nat.zero_add, List.set_cons_zero, List.getD_cons_zero]
    rw [List.drop_append_of_le_length (by omega)]
    simp
  | p :: pg, no + 1, h, hl => by
    have hp := h p (List.mem_cons_self ..)
    have ih := laid_flat ys hy pg no (fun q hq => h q (List.mem_cons_of_mem _ hq)) (by simpa using hl)
    rw [List.set_cons_succ, List.flatten_cons, List.flatten_cons, List.getD_cons_succ, ← ih]
    have e1 : m * (no + 1) = p.length + m * no := by rw [hp, Nat.mul_succ]; omega
    simp only [Go.Proofs.Ytehdigkjbobndaa.laid, e1, List.take_length_add_append, List.append_assoc]
    rw [show p.length + m * no + ys.length = p.length + (m * no + ys.length) by omega, List.drop_length_add_append]
/-- A page was copied into. -/
theorem DevX.laidPage {w w' : World} {g : Nat} {S : Nat → Prop} {s : DSt} {gl cap bm n : Nat} {f : Int → Option Value} (h : DevX w g S s gl cap bm n f) (no : Nat) (hn : no < s.pg.length) (ys : List Int) (hy : ys.length ≤ 256)
    (hu : UpX (fun b => b = gl) w w') (ho : Own w' 0 5 .u8 (.slice (some ⟨gl, 0, none⟩) (256 * s.pg.length) cap) (Go.Proofs.Ytehdigkjbobndaa.laid s.pg.flatten (256 * no) ys)) :
    DevX w' g S { s with pg := s.pg.set no (Go.Proofs.Ytehdigkjbobndaa.laid (s.pg.getD no []) 0 ys) } gl cap bm n f := by
  have hok := h.ok
  have hpl := (h.page no hn).2
  refine ⟨?_, ?_, h.map.upx hu (fun e => h.ne3 e.symm), h.nle, ⟨fun p => ?_, h.wts.sep⟩, h.sg, h.sgl, h.sbm, h.ne1, h.ne2, h.ne3, fun b hb => Nat.lt_of_lt_of_le (h.lt b hb) hu.size, ⟨fun p hp => ?_, ?_, ?_, hok.wlen, ?_, hok.left, hok.wmax⟩⟩
  · have := h.b.upx hu h.ne1
    simpa [devCells] using this
  · rw [List.length_set, ← laid_flat ys hy s.pg no hok.len hn]
    exact ho
  · refine (h.wts.at_ p).imp id fun ⟨v, h1, h2, h3⟩ => ⟨v, h1, h2, h3.upx hu (fun b hb e => (h.spine h1 b hb).2.1 e) fun b _ hne _ e => hne e⟩
  · rcases List.mem_or_eq_of_mem_set hp with hp | rfl
    · exact hok.len p hp
    · rw [laid_len (by omega), hpl]
  · rw [List.length_set]; exact hok.one
  · rw [List.length_set]; exact hok.most
  · intro p hp; rw [List.length_set]; exact hok.win p hp
theorem laid_full {xs ys : List Int} (h : ys.length = xs.length) : Go.Proofs.Ytehdigkjbobndaa.laid xs 0 ys = ys := by simp [Go.Proofs.Ytehdigkjbobndaa.laid, h]
/-- Pages of which those that were met are laid. -/
def metPg (s : DSt) (L : Int → Bool) : List (List Int) := (List.range s.pg.length).map fun (i : Nat) => if L (i : Int) then s.pg.getD i [] else devSees s i
theorem metPg_len (s : DSt) (L : Int → Bool) : (metPg s L).length = s.pg.length := by simp [metPg]
theorem metPg_get (s : DSt) (L : Int → Bool) {i : Nat} (hi : i < s.pg.length) : (metPg s L).getD i [] = if L (i : Int) then s.pg.getD i [] else devSees s i := by
  rw [List.getD_eq_getElem?_getD, List.getElem?_eq_getElem (by rw [metPg_len]; exact hi)]
  simp [metPg]
theorem metPg_start (s : DSt) (L : Int → Bool) (h : ∀ i : Nat, L i = false → s.wt i = []) : metPg s L = s.pg := by
  refine List.ext_getElem (metPg_len s L) fun i hi hi' => ?_
  have h1 := metPg_get s L hi'
  rw [List.getD_eq_getElem?_getD, List.getElem?_eq_getElem hi] at h1
  simp only [Option.getD_some] at h1
  rw [h1]
  have h2 : s.pg.getD i [] = s.pg[i] := by rw [List.getD_eq_getElem?_getD, List.getElem?_eq_getElem hi']; rfl
  split
  · exact h2
  · rename_i hL
    unfold devSees
    rw [if_pos (h i (by simpa using hL)), h2]
theorem metPg_step (s : DSt) (L : Int → Bool) {x : Nat} : metPg s (fun y => L y && !decide (y = (x : Int))) = (metPg s L).set x (devSees s x) := by
  refine List.ext_getElem (by rw [List.length_set, metPg_len, metPg_len]) fun i hi hi' => ?_
  rw [metPg_len] at hi
  rw [List.getElem_set]
  simp only [metPg, List.getElem_map, List.getElem_range]
  by_cases e : x = i
  · subst e; simp
  · have : decide ((i : Int) = (x : Int)) = false := decide_eq_false (by omega)
    simp [e, this]
theorem metPg_end (s : DSt) (L : Int → Bool) (h : ∀ i : Nat, i < s.pg.length → L i = false) : metPg s L = (List.range s.pg.length).map (devSees s) := by
  refine List.map_congr_left fun i hi => ?_
  rw [if_neg (by rw [h i (List.mem_range.1 hi)]; simp)]
/-- Nothing waits any more. -/
theorem DevX.cleared {w w' : World} {g : Nat} {S : Nat → Prop} {s : DSt} {gl cap bm n : Nat} {f : Int → Option Value} (h : DevX w g S s gl cap bm n f) (hu : UpX (fun b => b = bm) w w') (hm : MapI Try.prog 3 w' bm 0 (fun _ => none)) :
    DevX w' g S { s with wt := fun _ => [] } gl cap bm 0 (fun _ => none) := by
  have hok := h.ok
  refine ⟨?_, h.laid.upx hu (fun b hb e => ?_), hm, Nat.zero_le _, ⟨fun p => .inl ⟨rfl, rfl⟩, fun p q u v hu => (by cases hu)⟩, h.sg, h.sgl, h.sbm, h.ne1, h.ne2, h.ne3, fun b hb => Nat.lt_of_lt_of_le (h.lt b hb) hu.size, ⟨hok.len, hok.one, hok.most, fun p l hl => (by cases hl), fun p hp => absurd rfl hp, hok.left, fun p => Nat.zero_le _⟩⟩
  · have := h.b.upx hu h.ne2
    simpa [devCells] using this
  · simp only [Value.ownBlock, Option.some.injEq] at hb
    exact h.ne3 (hb.trans e)
/-- Sync. -/
def syncR (s : DSt) : Int := if s.off = true ∨ useOk s = false then 9 else 0
def syncS (s : DSt) : DSt := if s.off = true then s else if useOk s then { useS s with sy := s.sy + 1, pg := (List.range s.pg.length).map (devSees s), wt := fun _ => [] } else useS s
set_option maxHeartbeats 1000000 in
theorem devSync_bad (g : Nat) (S : Nat → Prop) (s : DSt) (w : World) (h : DevI w g S s) (hb : s.off = true ∨ useOk s = false) :
    Calls Try.prog 21 #[.pointer (some ⟨g, 0, none⟩)] w fun e w' => e = .returned (.int .i64 9) ∧ DevTo w g S (syncS s) w' := by
  have H1 := Lib.hid (devOn_calls g S s w h)
  have hnot : ∀ (x : Bool) (w : World), (Op.unary .not (.bool x)).run Try.prog w = .ok (.bool (!x)) w := fun _ _ => rfl
  have hdt : DevTo w g S s w := ⟨S, h, UpX.refl _ _, fun b hb => .inl hb⟩
  by_cases ho : s.off = true
  · have hS := Lib.hid (show syncS s = s by unfold syncS; rw [if_pos ho])
    rw [ho] at H1
    have HF := Lib.hid hdt
    clear hb ho h hdt
    go_enter Try.func21, Try.ntmps21
    go_wp2_with fail
    refine (H1.out).mono ?_
    rintro en w1 ⟨rfl, rfl⟩
    go_wp2_with fail
    go_ret
    exact ⟨rfl, by rw [hS.out]; exact HF.out⟩
  · have hu : useOk s = false := by rcases hb with h1 | h1; exact absurd h1 ho; exact h1
    have hof : s.off = false := by simpa using ho
    have hS := Lib.hid (show syncS s = useS s by unfold syncS; rw [if_neg ho, hu]; simp)
    rw [hof] at H1
    obtain ⟨gl, cap, bm, n, f, hx⟩ := h.out
    have HU := Lib.hid (powUse_calls g S s gl cap bm n f w hx)
    rw [hu] at HU
    have HS := Lib.hid hx.sg
    clear hb ho h hdt hu hof hx
    go_enter Try.func21, Try.ntmps21
    go_wp2_with fail
    refine (H1.out).mono ?_
    rintro en w1 ⟨rfl, rfl⟩
    go_wp2_with fail
    refine (HU.out).mono ?_
    rintro en w2 ⟨rfl, hd, hx⟩
    have HF := Lib.hid (show DevTo w1 g S (useS s) w2 from ⟨S, ⟨_, _, _, _, _, hd⟩, hx.mono fun k _ e => by subst e; exact HS.out, fun b hb => .inl hb⟩)
    clear hd hx HU H1
    go_wp2_with fail
    go_ret
    exact ⟨rfl, by rw [hS.out]; exact HF.out⟩
set_option maxHeartbeats 4000000 in
theorem devSync_ok (g : Nat) (S : Nat → Prop) (s : DSt) (w : World) (h : DevI w g S s) (ho : s.off = false) (hu : useOk s = true) (hsy : s.sy < 1000000000000) :
    Calls Try.prog 21 #[.pointer (some ⟨g, 0, none⟩)] w fun e w' => e = .returned (.int .i64 0) ∧ DevTo w g S (syncS s) w' := by
  have H1 := Lib.hid (devOn_calls g S s w h)
  have hnot : ∀ (x : Bool) (w : World), (Op.unary .not (.bool x)).run Try.prog w = .ok (.bool (!x)) w := fun _ _ => rfl
  have hS := Lib.hid (show syncS s = { useS s with sy := s.sy + 1, pg := (List.range s.pg.length).map (devSees s), wt := fun _ => [] } by unfold syncS; rw [ho, hu]; rfl)
  rw [ho] at H1
  obtain ⟨gl, cap, bm, n, f, hx⟩ := h.out
  have HU := Lib.hid (powUse_calls g S s gl cap bm n f w hx)
  rw [hu] at HU
  have HS := Lib.hid hx.sg
  have HLT := Lib.hid hx.lt
  have HSY := Lib.hid hsy
  clear h ho hu hx hsy
  go_enter Try.func21, Try.ntmps21
  go_wp2_with fail
  refine (H1.out).mono ?_
  rintro en w1 ⟨rfl, rfl⟩
  go_wp2_with fail
  refine (HU.out).mono ?_
  rintro en w2 ⟨rfl, hd, hx⟩
  have g5 : w2.cell? ⟨g, 5, none⟩ = some (.int .i64 (useS s).sy) := hd.b.cell 5
  have HADD := Lib.hid (atomAdd_calls ⟨g, 5, none⟩ (useS s).sy w2 g5 (hd.b.frozen 5) (by omega) (by rw [(useS_pg s).2.2.2.2]; have := HSY.out; omega))
  have HD := Lib.hid hd
  clear hd g5 HU H1
  go_wp2_with fail
  refine (HADD.out).mono ?_
  rintro en w3 ⟨rfl, he3⟩
  have hx3 : UpX (fun b => b = g) w2 w3 := by rw [he3]; exact UpX.one _ _ _ _
  have hd3 : DevX w3 g S { useS s with sy := (useS s).sy + 1 } gl cap bm n f := HD.out.cells hx3 (by rw [he3]; have := HD.out.b.set 5 (.int .i64 ((useS s).sy + 1)); simpa [devCells] using this) rfl rfl (Nat.le_refl _) HD.out.ok.left
  have hX3 : UpX S w1 w3 := (hx.trans hx3).mono fun b _ e => by subst e; exact HS.out
  clear he3 HADD HD hx hx3
  obtain ⟨s1, hs1⟩ : ∃ s1, ({ useS s with sy := (useS s).sy + 1 } : DSt) = s1 := ⟨_, rfl⟩
  rw [hs1] at hd3
  have g7 : w3.cell? ⟨g, 7, none⟩ = some (.map (some bm)) := hd3.b.cell 7
  have hmap := hd3.map
  have HR := Lib.hid fun b hb => Nat.lt_of_lt_of_le (HLT.out b hb) hX3.size
  go_wp2_with (refine wpl_mapRange w3 rfl _ 91 rfl 3 55 Try.underlying3 Try.underlying91 bm n f rfl hmap ?_; intro w4 cnt hr hu4 hsz4)
  dsimp only [Act.put]
  simp only [List.setIfInBounds_toArray, List.set_cons_zero, List.set_cons_succ]
  go_loopw [3, 4] (fun _ _ wr => ∃ (L : Int → Bool) (cnt : Nat), DevX wr g S { s1 with pg := metPg s1 L } gl cap bm n f ∧ RngI Try.prog 3 wr bm w3.heap.size n f L cnt ∧ UpX S w3 wr) (fun _ _ wr => wr.rangeLeft bm w3.heap.size)
  case atStart =>
    refine ⟨_, cnt, ?_, hr, hu4.x _⟩
    rw [metPg_start s1 _ (fun i hi => by
      rcases hd3.wts.at_ (i : Int) with ⟨_, h2⟩ | ⟨v, h1, _⟩
      · exact h2
      · simp [h1] at hi)]
    exact hd3.up hu4
  case round =>
    obtain ⟨L, cnt', hdr, hr', hu'⟩ := hrel
    clear hr hu4 hd3 hmap g7
    go_wp2_with (refine wpl_mapNext wr rfl _ rfl 3 Try.underlying3 bm w3.heap.size n f L cnt' rfl hr' ?_ ?_)
    · intro hc hl
      have g7 : wr.cell? ⟨g, 7, none⟩ = some (.map (some bm)) := hdr.b.cell 7
      have hmap := hdr.map
      have HE := Lib.hid (metPg_end s1 L fun i hi => hl i (InK.of_i64 (by omega) (by have := hdr.ok.most; rw [metPg_len] at this; omega)))
      have HDR := Lib.hid hdr
      clear hl hdr hr'
      go_wp2_with (refine wpl_mapClear wr rfl _ 91 3 rfl 55 Try.underlying91 bm n f rfl hmap ?_; intro w5 hm5 hx5)
      go_wp2_with fail
      go_ret
      have hfin := HDR.out.cleared hx5 hm5
      rw [HE.out] at hfin
      have e1 : s1.pg = s.pg ∧ s1.wt = s.wt ∧ s1.sy = s.sy + 1 ∧ s1.off = (useS s).off ∧ s1.armed = (useS s).armed ∧ s1.left = (useS s).left ∧ s1.rd = (useS s).rd ∧ s1.wr = (useS s).wr := by
        subst hs1
        have := useS_pg s
        exact ⟨this.1, this.2.1, by show (useS s).sy + 1 = _; rw [this.2.2.2.2], rfl, rfl, rfl, rfl, rfl⟩
      obtain ⟨e1, e2, e3, e4, e5, e6, e7, e8⟩ := e1
      have e9 : devSees s1 = devSees s := by funext i; unfold devSees; rw [e1, e2]
      rw [e1, e3, e4, e5, e6, e7, e8, e9] at hfin
      refine ⟨rfl, ?_⟩
      rw [hS.out]
      exact ⟨S, ⟨_, _, _, _, _, hfin⟩, (hX3.trans hu').trans (hx5.mono fun b _ e => by subst e; exact HDR.out.sbm), fun b hb => .inl hb⟩
    · intro x v w' cnt2 hx hL hfx hr2 hlt hux hsz hen
      have hdw := hdr.upx hux (fun b hb e => by have := HR.out b hb; omega)
      have hw : s1.wt x ≠ [] ∧ WaitI w' S gl v (s1.wt x) := by
        rcases hdw.wts.at_ x with ⟨h1, _⟩ | ⟨v', h1, h2, h3⟩
        · rw [hfx] at h1; cases h1
        · rw [hfx] at h1
          obtain rfl := Option.some.inj h1
          exact ⟨h2, h3⟩
      obtain ⟨hw0, hw1⟩ := hw
      have hin := hdw.ok.win x hw0
      simp only [metPg_len] at hin
      obtain ⟨i, rfl⟩ := Int.eq_ofNat_of_zero_le hin.1
      have hil : i < s1.pg.length := by omega
      obtain ⟨A, c, rfl, hc, hrl⟩ := hw1.slice
      have h0 : 0 < (s1.wt i).length := List.length_pos_iff.2 hw0
      obtain ⟨ad, l, A', c', rfl, hcl, hrd, hlg⟩ := hrl.get ((s1.wt i).length - 1) (by show (s1.wt i).length - 1 < (s1.wt i).length; omega)
      have hsee : devSees s1 i = l := by unfold devSees; rw [if_neg hw0]; exact hlg.out
      have hl256 : l.length = 256 := by
        have h9 := hlg.out
        rw [List.getD_eq_getElem?_getD, List.getElem?_eq_getElem (by omega)] at h9
        rw [← h9]
        exact hdw.ok.wlen i _ (List.getElem_mem _)
      have hmx := hrl.mx
      rw [hl256] at hcl
      have HSEE := Lib.hid hsee
      have HL256 := Lib.hid hl256
      have HWX := Lib.hid hdw
      have HR2 := Lib.hid hr2
      have hX : UpX S w3 w' := hu'.then_ hux (fun b hb e => by omega)
      have HP := Lib.hid fun w9 hd9 => devPage_calls g S { s1 with pg := metPg s1 L } gl cap bm n f i w9 hd9 (by rw [metPg_len]; exact hil)
      have HLE := Lib.hid hlt
      have HR1 := Lib.hid hr'
      clear hw1 hin hx hL hfx hr2 hux hsz hrl hlg hsee hl256 hdw hdr hu' hw0 hlt hr'
      generalize hm : (s1.wt i).length = m at *
      clear hm
      have hm1 : ((m : Int) - 1).toNat = m - 1 := by omega
      go_wp2_with fail
      refine wp_region_tree (fun w9 => Up w' w9) (.quiet 0 (.quiet 1 (.quiet 3 (.quiet 4 (.quiet 5 (.quiet 6 (.quiet 7 (.quiet 8 (.alt 2 (.alt 9 (.nil) (.stop)) (.stop)))))))))) (by kernel_rfl) (by kernel_rfl) rfl (by kernel_rfl) (by kernel_rfl) ((Up.refl w').drew) ?_
      simp only [pickT, List.getElem?_cons_succ, List.getElem?_cons_zero, Option.getD_some]
      repeat (refine tree_step rfl (fun K hK => ?_); go_big_quiet_step ((intro _; rfl)); refine wpQuiet_nil (hK _ ?_); clear hK K)
      refine tree_load (ad.add (m - 1)) (.slice A' 256 c') (by kernel_rfl) rfl (by kernel_rfl) (fun w' h => h.cell hcl) ?_
      dsimp only [Act.put]
      simp only [List.setIfInBounds_toArray, List.set_cons_zero, List.set_cons_succ]
      have hud : Up w' w'.drew := (Up.refl w').drew
      refine tree_do (fun K hK => ?_)
      go_wp2_with fail
      refine (HP.out w'.drew (HWX.out.up hud)).mono ?_
      rintro en w8 ⟨rfl, rfl⟩
      go_wp2_with fail
      refine ⟨hud, ?_⟩
      repeat (refine tree_step rfl (fun K hK => ?_); go_big_quiet_step ((intro _; rfl)); refine wpQuiet_nil (hK _ ?_); clear hK K)
      refine tree_do (fun K hK => ?_)
      have hD8 := Lib.hid (HWX.out.up hud)
      have hLL := hD8.out.laid
      have hfl := flatten_len hD8.out.ok.len
      simp only [metPg_len] at hfl hLL
      go_wp2_with (refine wpl_copyO 5 .u8 Try.underlying22 (by kernel_rfl) 0 (.slice (some ⟨gl, 0, none⟩) (256 * s1.pg.length) cap) (metPg s1 L).flatten hLL gl (256 * s1.pg.length) cap (256 * i) 256 (cap - 256 * i) rfl rfl A' 256 c' l rfl HL256.out.symm (hrd.up hud) (by rw [HL256.out]; decide) (by rw [HL256.out, hfl]; omega) ?_; intro w9 ho9 hx9 hs9)
      refine ⟨trivial, ?_⟩
      refine tree_nil ?_
      have hfin := hD8.out.laidPage i (by show i < (metPg s1 L).length; rw [metPg_len]; exact hil) l (by rw [HL256.out]; decide) hx9 (by simpa only [metPg_len] using ho9)
      simp only at hfin
      have hgi := (hD8.out.page i (by show i < (metPg s1 L).length; rw [metPg_len]; exact hil)).2
      rw [laid_full (by rw [HL256.out]; exact hgi.symm), ← HSEE.out, ← metPg_step] at hfin
      have HFIN := Lib.hid hfin
      have hne : gl ≠ w3.heap.size := fun e => by have := HR.out gl HWX.out.sgl; omega
      have hr9 := (HR2.out.upx (hud.x (fun b => b = gl)) (fun e => HWX.out.ne3 e.symm) (fun e => hne e.symm)).upx hx9 (fun e => HWX.out.ne3 e.symm) (fun e => hne e.symm)
      have HR9 := Lib.hid hr9
      clear hfin hgi hr9 ho9 hLL hfl hrd
      go_wp2_with fail
      dsimp only [Act.put]
      simp only [List.setIfInBounds_toArray, List.set_cons_zero, List.set_cons_succ]
      go_roundw
      case rel => exact ⟨_, cnt2, HFIN.out, HR9.out, (hX.trans (hud.x _)).trans (hx9.mono fun b _ e => by subst e; exact HWX.out.sgl)⟩
      case measure => rw [HR9.out.left_eq, HR1.out.left_eq]; exact HLE.out
end Go.Proofs.Ytehdigkjbobndaa

/- Layer 3: keep. -/
namespace Go.Proofs.Ytehdigkjbobndaa
open Go.RowKit
set_option maxRecDepth 100000

/-- A page's versions are dropped. -/
theorem DevX.dropped {w w' : World} {g : Nat} {S : Nat → Prop} {s : DSt} {gl cap bm n : Nat} {f : Int → Option Value} (h : DevX w g S s gl cap bm n f) (x : Int) (hu : UpX (fun b => b = bm) w w') (hm : MapI Try.prog 3 w' bm n (fun y => if y = x then none else f y)) :
    DevX w' g S { s with wt := fun q => if q = x then [] else s.wt q } gl cap bm n (fun y => if y = x then none else f y) := by
  have hok := h.ok
  refine ⟨?_, h.laid.upx hu (fun b hb e => ?_), hm, h.nle, ⟨fun p => ?_, fun p q u v hu hv => ?_⟩, h.sg, h.sgl, h.sbm, h.ne1, h.ne2, h.ne3, fun b hb => Nat.lt_of_lt_of_le (h.lt b hb) hu.size, ⟨hok.len, hok.one, hok.most, fun p l hl => ?_, fun p hp => ?_, hok.left, fun p => ?_⟩⟩
  · have := h.b.upx hu h.ne2
    simpa [devCells] using this
  · simp only [Value.ownBlock, Option.some.injEq] at hb
    exact h.ne3 (hb.trans e)
  · by_cases e : p = x
    · exact .inl ⟨if_pos e, if_pos e⟩
    · simp only [if_neg e]
      refine (h.wts.at_ p).imp id fun ⟨v, h1, h2, h3⟩ => ⟨v, h1, h2, h3.upx hu (fun b hb e => (h.spine h1 b hb).2.2 e) fun b _ _ ht e => (h.content ht).2.1 e⟩
  · split at hu
    · cases hu
    · split at hv
      · cases hv
      · exact h.wts.sep p q u v hu hv
  · simp only at hl
    split at hl
    · cases hl
    · exact hok.wlen p l hl
  · simp only at hp
    split at hp
    · exact absurd rfl hp
    · exact hok.win p hp
  · show (if p = x then [] else s.wt p).length ≤ s.wr
    split
    · simp
    · exact hok.wmax p
theorem DevX.rdl {w : World} {g : Nat} {S : Nat → Prop} {s : DSt} {gl cap bm n : Nat} {f : Int → Option Value} (h : DevX w g S s gl cap bm n f) {x : Int} {A : Option Addr} {m c : Nat} (hf : f x = some (.slice A m c)) : RdL w .u8 A c (s.wt x) := by
  rcases h.wts.at_ x with ⟨h1, _⟩ | ⟨v', h1, _, h3⟩
  · rw [hf] at h1; cases h1
  · rw [hf] at h1
    obtain rfl := Option.some.inj h1
    obtain ⟨A', c', e, _, h5⟩ := h3.slice
    injection e with e1 _ e3
    subst e1 e3
    exact h5
/-- keep. -/
def keepS (s : DSt) (k : KeepS) : DSt := { s with pg := s.pg.set k.page.toNat (crashPage k (s.wt k.page) (s.pg.getD k.page.toNat [])), wt := fun q => if q = k.page then [] else s.wt q }
structure KeepIn (k : KeepS) : Prop where
  page : InK .i64 k.page
  n : InK .i64 k.n
  part : InK .i64 k.part
abbrev keepV3 (k : KeepS) : Value := .agg #[.int .i64 k.page, .int .i64 k.n, .int .i64 k.part]
set_option maxHeartbeats 4000000 in
theorem devkeep_calls (g : Nat) (S : Nat → Prop) (s : DSt) (k : KeepS) (w : World) (h : DevI w g S s) (hk : KeepIn k) (hw : s.wt k.page ≠ []) :
    Calls Try.prog 58 #[.pointer (some ⟨g, 0, none⟩), keepV3 k] w fun e w' => e = .returned (.int .i64 (kept k (s.wt k.page).length : Nat)) ∧ DevI w' g S (keepS s k) ∧ UpX S w w' := by
  obtain ⟨kp, kn, kq⟩ := k
  obtain ⟨gl, cap, bm, n, f, hd⟩ := h.out
  have hlt := hd.lt
  have hin := hd.ok.win kp hw
  obtain ⟨i, rfl⟩ := Int.eq_ofNat_of_zero_le hin.1
  have hil : i < s.pg.length := by omega
  have hmost := hd.ok.most
  have hua : Up w (w.alloc (.cells #[.int .i64 (i : Int), .int .i64 kn, .int .i64 kq] 104)) := (Up.refl w).alloc _
  have hB := Blk.new w 104 #[.int .i64 (i : Int), .int .i64 kn, .int .i64 kq]
  have hd0 := hd.up hua
  have HLT := Lib.hid hlt
  have HIL := Lib.hid hil
  clear h hd hin hlt
  go_enter Try.func58, Try.ntmps58
  go_wp2_with fail
  generalize hw1 : (w.alloc (.cells #[Value.int .i64 (i : Int), .int .i64 kn, .int .i64 kq] 104)) = w1 at *
  have hrl := hB.lt
  have HRS := Lib.hid (show ∀ b, S b → b ≠ w.heap.size from fun b hb e => by have := HLT.out b hb; omega)
  generalize w.heap.size = r at *
  clear hw1
  have c0 : w1.cell? ⟨r, 0, none⟩ = some (.int .i64 (i : Int)) := hB.cell 0
  have c1 : w1.cell? ⟨r, 1, none⟩ = some (.int .i64 kn) := hB.cell 1
  have c2 : w1.cell? ⟨r, 2, none⟩ = some (.int .i64 kq) := hB.cell 2
  have g7 : w1.cell? ⟨g, 7, none⟩ = some (.map (some bm)) := hd0.b.cell 7
  have hik : InK .i64 (i : Int) := hk.page
  have hw9 : ∃ A c, f (i : Int) = some (.slice A (s.wt i).length c) ∧ (s.wt i).length ≤ c ∧ RdL w1 .u8 A c (s.wt i) := by
    rcases hd0.wts.at_ (i : Int) with ⟨_, h2⟩ | ⟨v', h1, h2, h3⟩
    · exact absurd h2 hw
    · obtain ⟨A, c, rfl, h4, h5⟩ := h3.slice
      exact ⟨A, c, h1, h4, h5⟩
  obtain ⟨A, c, hfi, hlc, hrd⟩ := hw9
  have hlk : ∀ w', Up w1 w' → (Instr.lookup 91 (.map (some bm)) (.int .i64 (i : Int)) false).run Try.prog w' = .ok (.slice A (s.wt i).length c) w' := fun w' hu => by
    have := (hd0.up hu).look (i : Int) hik
    rw [hfi] at this
    exact this
  have hm0 : 0 < (s.wt i).length := List.length_pos_iff.2 hw
  have hmx := hrd.mx
  have HK := Lib.hid (show kept ⟨i, kn, kq⟩ (s.wt i).length = min (max kn 0).toNat (s.wt i).length from rfl)
  generalize hK : kept ⟨i, kn, kq⟩ (s.wt i).length = K at *
  generalize hm : (s.wt i).length = m at *
  have hKm : min (max kn 0) (m : Int) = (K : Int) := by have := HK.out; omega
  have hKle : K ≤ m := by have := HK.out; omega
  refine wp_region_tree (fun w9 => Up w1 w9) (.quiet 0 (.quiet 1 (.quiet 2 (.quiet 3 (.quiet 4 (.quiet 5 (.quiet 6 (.quiet 7 (.nil))))))))) (by kernel_rfl) (by kernel_rfl) rfl (by kernel_rfl) (by kernel_rfl) ((Up.refl w1).drew) ?_
  simp only [pickT, List.getElem?_cons_succ, List.getElem?_cons_zero, Option.getD_some]
  repeat (refine tree_step rfl (fun K hK => ?_); go_big_quiet_step ((intro _; rfl)); refine wpQuiet_nil (hK _ ?_); clear hK K)
  refine tree_load ⟨g, 7, none⟩ (.map (some bm)) (by kernel_rfl) rfl (by kernel_rfl) (fun w' h => h.cell g7) ?_
  dsimp only [Act.put]
  simp only [List.setIfInBounds_toArray, List.set_cons_zero, List.set_cons_succ]
  repeat (refine tree_step rfl (fun K hK => ?_); go_big_quiet_step ((intro _; rfl)); refine wpQuiet_nil (hK _ ?_); clear hK K)
  refine tree_load ⟨r, 0, none⟩ (.int .i64 (i : Int)) (by kernel_rfl) rfl (by kernel_rfl) (fun w' h => h.cell c0) ?_
  dsimp only [Act.put]
  simp only [List.setIfInBounds_toArray, List.set_cons_zero, List.set_cons_succ]
  repeat (refine tree_step rfl (fun K hK => ?_); go_big_quiet_step ((intro _; rfl)); refine wpQuiet_nil (hK _ ?_); clear hK K)
  refine tree_lookup bm (i : Int) (.slice A m c) (by kernel_rfl) rfl rfl hlk ?_
  dsimp only [Act.put]
  simp only [List.setIfInBounds_toArray, List.set_cons_zero, List.set_cons_succ]
  repeat (refine tree_step rfl (fun K hK => ?_); go_big_quiet_step ((intro _; rfl)); refine wpQuiet_nil (hK _ ?_); clear hK K)
  refine tree_nil ?_
  have hud : Up w1 w1.drew := (Up.refl w1).drew
  have hd1 := hd0.up hud
  have k0 : w1.drew.cell? ⟨r, 0, none⟩ = some (.int .i64 (i : Int)) := c0
  have k1 : w1.drew.cell? ⟨r, 1, none⟩ = some (.int .i64 kn) := c1
  have k2 : w1.drew.cell? ⟨r, 2, none⟩ = some (.int .i64 kq) := c2
  have HU := Lib.hid (hua.trans hud)
  clear hd0 c0 c1 c2 g7 hlk hrd hua hB hud
  generalize w1.drew = w2 at *
  have HKM := Lib.hid hKm
  clear hKm
  go_upto_region 2 with fail
  go_cut [6] (fun v wx => v = .int .i64 K ∧ w2 = wx)
  case first =>
    have HKV := HKM.out
    by_cases h1 : 0 ≤ kn
    · by_cases h2 : (m : Int) < kn
      · have HE := Lib.hid (show (m : Int) = (K : Int) by omega)
        clear HKV
        go_wp2_with fail
        go_meet
        exact ⟨by rw [HE.out], rfl⟩
      · have HE := Lib.hid (show kn = (K : Int) by omega)
        clear HKV
        go_wp2_with fail
        go_meet
        exact ⟨by rw [HE.out], rfl⟩
    · have HE := Lib.hid (show 0 = (K : Int) by omega)
      clear HKV
      go_wp2_with fail
      go_meet
      exact ⟨by rw [← HE.out], rfl⟩
  case rest =>
    obtain ⟨rfl, rfl⟩ := hcut
    obtain ⟨q1, hq1⟩ : ∃ q1, q1 = (if 0 < K then (s.wt i).getD (K - 1) [] else s.pg.getD i []) := ⟨_, rfl⟩
    have HQ1 := Lib.hid hq1
    have HM := Lib.hid hm
    clear hq1 HKM k1 hm
    go_upto_if 21 with fail
    go_cut [] (fun wx => DevX wx g S { s with pg := s.pg.set i q1 } gl cap bm n f ∧ UpX S w2 wx)
    case first =>
      by_cases hK0 : K = 0
      · have HE := Lib.hid (show s.pg.set i q1 = s.pg by
          rw [HQ1.out, if_neg (by omega), List.getD_eq_getElem?_getD, List.getElem?_eq_getElem HIL.out]
          simp)
        subst hK0
        clear HK hK
        go_wp2_with fail
        go_meet
        exact ⟨by rw [HE.out]; exact hd1, UpX.refl _ _⟩
      · have hK1 : 0 < K := by omega
        have hKb : (0 : Int) < (K : Int) := by omega
        obtain ⟨ad, l, A', c', rfl, hcl, hrl2, hlg⟩ := (hd1.rdl hfi).get (K - 1) (by rw [HM.out]; omega)
        have hl256 : l.length = 256 := by
          have h9 := hlg.out
          rw [List.getD_eq_getElem?_getD, List.getElem?_eq_getElem (by rw [HM.out]; omega)] at h9
          rw [← h9]
          exact hd1.ok.wlen i _ (List.getElem_mem _)
        have HQ := Lib.hid (show q1 = l by rw [HQ1.out, if_pos hK1]; exact hlg.out)
        rw [hl256] at hcl
        have HL256 := Lib.hid hl256
        have hKm1 : ((K : Int) - 1).toNat = K - 1 := by omega
        have HP := Lib.hid fun w9 hd9 => devPage_calls g S s gl cap bm n f i w9 hd9 HIL.out
        have HD := Lib.hid hd1
        have HKL := Lib.hid hK
        clear hl256 hlg hd1 HK hK hK0
        go_wp2_with fail
        refine wp_region_tree (fun w9 => Up w2 w9) (.quiet 0 (.quiet 1 (.quiet 2 (.quiet 4 (.quiet 5 (.quiet 6 (.quiet 7 (.quiet 8 (.alt 3 (.alt 9 (.nil) (.stop)) (.stop)))))))))) (by kernel_rfl) (by kernel_rfl) rfl (by kernel_rfl) (by kernel_rfl) ((Up.refl w2).drew) ?_
        simp only [pickT, List.getElem?_cons_succ, List.getElem?_cons_zero, Option.getD_some]
        repeat (refine tree_step rfl (fun K hK => ?_); go_big_quiet_step ((intro _; rfl)); refine wpQuiet_nil (hK _ ?_); clear hK K)
        refine tree_load ⟨r, 0, none⟩ (.int .i64 (i : Int)) (by kernel_rfl) rfl (by kernel_rfl) (fun w' h => h.cell k0) ?_
        dsimp only [Act.put]
        simp only [List.setIfInBounds_toArray, List.set_cons_zero, List.set_cons_succ]
        repeat (refine tree_step rfl (fun K hK => ?_); go_big_quiet_step ((intro _; rfl)); refine wpQuiet_nil (hK _ ?_); clear hK K)
        refine tree_load (ad.add (K - 1)) (.slice A' 256 c') (by kernel_rfl) rfl (by kernel_rfl) (fun w' h => h.cell hcl) ?_
        dsimp only [Act.put]
        simp only [List.setIfInBounds_toArray, List.set_cons_zero, List.set_cons_succ]
        repeat (refine tree_step rfl (fun K hK => ?_); go_big_quiet_step ((intro _; rfl)); refine wpQuiet_nil (hK _ ?_); clear hK K)
        have hud : Up w2 w2.drew := (Up.refl w2).drew
        refine tree_do (fun K hK => ?_)
        go_wp2_with fail
        refine (HP.out w2.drew (HD.out.up hud)).mono ?_
        rintro en w8 ⟨rfl, rfl⟩
        go_wp2_with fail
        refine ⟨hud, ?_⟩
        repeat (refine tree_step rfl (fun K hK => ?_); go_big_quiet_step ((intro _; rfl)); refine wpQuiet_nil (hK _ ?_); clear hK K)
        refine tree_do (fun K hK => ?_)
        have hLL := (HD.out.up hud).laid
        have hfl := flatten_len HD.out.ok.len
        go_wp2_with (refine wpl_copyO 5 .u8 Try.underlying22 (by kernel_rfl) 0 (.slice (some ⟨gl, 0, none⟩) (256 * s.pg.length) cap) s.pg.flatten hLL gl (256 * s.pg.length) cap (256 * i) 256 (cap - 256 * i) rfl rfl A' 256 c' l rfl HL256.out.symm (hrl2.up hud) (by rw [HL256.out]; decide) (by rw [HL256.out, hfl]; omega) ?_; intro w9 ho9 hx9 hs9)
        refine ⟨trivial, ?_⟩
        refine tree_nil ?_
        have hfin := (HD.out.up hud).laidPage i HIL.out l (by rw [HL256.out]; decide) hx9 ho9
        have hgi := (HD.out.page i HIL.out).2
        rw [laid_full (by rw [HL256.out]; exact hgi.symm), ← HQ.out] at hfin
        have HFIN := Lib.hid hfin
        have HSG := Lib.hid HD.out.sgl
        clear hfin hgi hfl hLL ho9
        go_wp2_with fail
        dsimp only [Act.put]
        simp only [List.setIfInBounds_toArray, List.set_cons_zero, List.set_cons_succ]
        go_meet
        exact ⟨HFIN.out, (hud.x _).trans (hx9.mono fun b _ e => by subst e; exact HSG.out)⟩
    case rest =>
      obtain ⟨hd2, hx2⟩ := hcut
      obtain ⟨q2, hq2⟩ : ∃ q2, q2 = (if K < m then Go.Proofs.Ytehdigkjbobndaa.laid q1 0 (((s.wt i).getD K []).take (min (max kq 0) 256).toNat) else q1) := ⟨_, rfl⟩
      have HQ2 := Lib.hid hq2
      have HSUB := Lib.hid (show ∀ b, b = gl → S b from fun b e => by subst e; exact hd2.sgl)
      have c0 : wc.cell? ⟨r, 0, none⟩ = some (.int .i64 (i : Int)) := hx2.cell k0 (fun hb => HRS.out _ hb rfl)
      have c2 : wc.cell? ⟨r, 2, none⟩ = some (.int .i64 kq) := hx2.cell k2 (fun hb => HRS.out _ hb rfl)
      have HX2 := Lib.hid hx2
      have HKL := Lib.hid hK
      clear hq2 k0 k2 hd1 HK hK hx2
      go_upto_if 35 with fail
      go_cut [] (fun wx => DevX wx g S { s with pg := s.pg.set i q2 } gl cap bm n f ∧ UpX S wc wx)
      case first =>
        by_cases hlt : K < m
        · have hKb : (K : Int) < (m : Int) := by omega
          obtain ⟨ad, l, A', c', rfl, hcl, hrl2, hlg⟩ := (hd2.rdl hfi).get K (by show K < (s.wt i).length; rw [HM.out]; exact hlt)
          have hl256 : l.length = 256 := by
            have h9 := hlg.out
            simp only at h9
            rw [List.getD_eq_getElem?_getD, List.getElem?_eq_getElem (by rw [HM.out]; exact hlt)] at h9
            rw [← h9]
            exact hd2.ok.wlen i _ (List.getElem_mem _)
          rw [hl256] at hcl
          have HL256 := Lib.hid hl256
          have HP := Lib.hid fun w9 hd9 => devPage_calls g S { s with pg := s.pg.set i q1 } gl cap bm n f i w9 hd9 (by rw [List.length_set]; exact HIL.out)
          have HD := Lib.hid hd2
          have HLG := Lib.hid hlg.out
          clear hl256 hlg hd2
          go_wp2_with fail
          refine wp_region_tree (fun w9 => Up wc w9) (.quiet 0 (.quiet 1 (.quiet 2 (.quiet 4 (.quiet 5 (.quiet 6 (.quiet 7 (.quiet 8 (.quiet 9 (.quiet 10 (.quiet 11 (.quiet 12 (.alt 3 (.alt 13 (.nil) (.stop)) (.stop)))))))))))))) (by kernel_rfl) (by kernel_rfl) rfl (by kernel_rfl) (by kernel_rfl) ((Up.refl wc).drew) ?_
          simp only [pickT, List.getElem?_cons_succ, List.getElem?_cons_zero, Option.getD_some]
          repeat (refine tree_step rfl (fun K hK => ?_); go_big_quiet_step ((intro _; rfl)); refine wpQuiet_nil (hK _ ?_); clear hK K)
          refine tree_load ⟨r, 0, none⟩ (.int .i64 (i : Int)) (by kernel_rfl) rfl (by kernel_rfl) (fun w' h => h.cell c0) ?_
          dsimp only [Act.put]
          simp only [List.setIfInBounds_toArray, List.set_cons_zero, List.set_cons_succ]
          repeat (refine tree_step rfl (fun K hK => ?_); go_big_quiet_step ((intro _; rfl)); refine wpQuiet_nil (hK _ ?_); clear hK K)
          refine tree_load (ad.add K) (.slice A' 256 c') (by kernel_rfl) rfl (by kernel_rfl) (fun w' h => h.cell hcl) ?_
          dsimp only [Act.put]
          simp only [List.setIfInBounds_toArray, List.set_cons_zero, List.set_cons_succ]
          repeat (refine tree_step rfl (fun K hK => ?_); go_big_quiet_step ((intro _; rfl)); refine wpQuiet_nil (hK _ ?_); clear hK K)
          refine tree_load ⟨r, 2, none⟩ (.int .i64 kq) (by kernel_rfl) rfl (by kernel_rfl) (fun w' h => h.cell c2) ?_
          dsimp only [Act.put]
          simp only [List.setIfInBounds_toArray, List.set_cons_zero, List.set_cons_succ]
          repeat (refine tree_step rfl (fun K hK => ?_); go_big_quiet_step ((intro _; rfl)); refine wpQuiet_nil (hK _ ?_); clear hK K)
          obtain ⟨P, hP⟩ : ∃ P, P = (min (max kq 0) 256).toNat := ⟨_, rfl⟩
          have hP1 : (if 256 < (if kq < 0 then (0 : Int) else kq) then (256 : Int) else (if kq < 0 then (0 : Int) else kq)) = (P : Int) := by
            rw [hP]
            split <;> split <;> omega
          rw [hP1]
          clear hP1
          generalize (if kq < 0 then (0 : Int) else kq) = z46
          have hP2 : P ≤ 256 := by omega
          have HPQ := Lib.hid (show q2 = Go.Proofs.Ytehdigkjbobndaa.laid q1 0 (l.take P) by rw [HQ2.out, if_pos hlt, HLG.out, hP])
          have hc256 := hrl2.le
          rw [HL256.out] at hc256
          obtain ⟨A2, e2, hr2⟩ := hrl2.sliced 0 P c' (by omega) (by rw [HL256.out]; exact hP2) (by omega) (Nat.le_refl _)
          simp only [List.drop_zero, Nat.sub_zero] at hr2 e2
          refine tree_slice_hi 5 1 (.int .u8 0) A' 256 c' .i64 (P : Int) Try.underlying22 infoU8 (by kernel_rfl) rfl rfl (by omega) (by omega) ?_
          rw [show sliced A' 0 (P : Int).toNat c' 1 = .slice A2 P c' from e2]
          clear e2 hP
          dsimp only [Act.put]
          simp only [List.setIfInBounds_toArray, List.set_cons_zero, List.set_cons_succ]
          repeat (refine tree_step rfl (fun K hK => ?_); go_big_quiet_step ((intro _; rfl)); refine wpQuiet_nil (hK _ ?_); clear hK K)
          have hud : Up wc wc.drew := (Up.refl wc).drew
          refine tree_do (fun K hK => ?_)
          go_wp2_with fail
          refine (HP.out wc.drew (HD.out.up hud)).mono ?_
          rintro en w8 ⟨rfl, rfl⟩
          go_wp2_with fail
          refine ⟨hud, ?_⟩
          repeat (refine tree_step rfl (fun K hK => ?_); go_big_quiet_step ((intro _; rfl)); refine wpQuiet_nil (hK _ ?_); clear hK K)
          refine tree_do (fun K hK => ?_)
          have hLL := (HD.out.up hud).laid
          have hfl := flatten_len HD.out.ok.len
          simp only [List.length_set] at hLL hfl
          have hil2 : i < (s.pg.set i q1).length := by rw [List.length_set]; exact HIL.out
          have hPl : (l.take P).length = P := by rw [List.length_take, HL256.out]; omega
          go_wp2_with (refine wpl_copyO 5 .u8 Try.underlying22 (by kernel_rfl) 0 (.slice (some ⟨gl, 0, none⟩) (256 * s.pg.length) cap) (s.pg.set i q1).flatten hLL gl (256 * s.pg.length) cap (256 * i) 256 (cap - 256 * i) rfl rfl A2 P c' (l.take P) rfl hPl.symm (hr2.up hud) (by rw [hPl]; exact hP2) (by rw [hPl, hfl]; have := HIL.out; omega) ?_; intro w9 ho9 hx9 hs9)
          refine ⟨trivial, ?_⟩
          refine tree_nil ?_
          have hfin := (HD.out.up hud).laidPage i hil2 (l.take P) (by rw [hPl]; exact hP2) hx9 (by simpa only [List.length_set] using ho9)
          simp only at hfin
          rw [show (s.pg.set i q1).getD i [] = q1 by rw [List.getD_eq_getElem?_getD, List.getElem?_set_self HIL.out]; rfl, List.set_set, ← HPQ.out] at hfin
          have HFIN := Lib.hid hfin
          clear hfin hfl hLL ho9 hPl
          go_wp2_with fail
          dsimp only [Act.put]
          simp only [List.setIfInBounds_toArray, List.set_cons_zero, List.set_cons_succ]
          go_meet
          exact ⟨HFIN.out, (hud.x _).trans (hx9.mono fun b _ e => HSUB.out b e)⟩
        · have hKb : (m : Int) ≤ (K : Int) := by omega
          have hKd : decide ((K : Int) < (m : Int)) = false := decide_eq_false (by omega)
          have HE := Lib.hid (show q2 = q1 by rw [HQ2.out, if_neg hlt])
          go_wp2_with fail
          go_meet
          exact ⟨by rw [HE.out]; exact hd2, UpX.refl _ _⟩
      case rest =>
        obtain ⟨hd3, hx3⟩ := hcut
        rename_i wb
        have k0 : wc.cell? ⟨r, 0, none⟩ = some (.int .i64 (i : Int)) := hx3.cell c0 (fun hb => HRS.out _ hb rfl)
        have g7 : wc.cell? ⟨g, 7, none⟩ = some (.map (some bm)) := hd3.b.cell 7
        have HD3 := Lib.hid hd3
        have HX3 := Lib.hid hx3
        have hmap := hd3.map
        clear hd2 c0 c2 hd3 hx3
        go_wp2_with fail
        refine wp_region_tree (fun w9 => Up wc w9) (.quiet 0 (.quiet 1 (.quiet 2 (.quiet 3 (.quiet 4 (.quiet 5 (.alt 6 (.nil) (.stop)))))))) (by kernel_rfl) (by kernel_rfl) rfl (by kernel_rfl) (by kernel_rfl) ((Up.refl wc).drew) ?_
        simp only [pickT, List.getElem?_cons_succ, List.getElem?_cons_zero, Option.getD_some]
        repeat (refine tree_step rfl (fun K hK => ?_); go_big_quiet_step ((intro _; rfl)); refine wpQuiet_nil (hK _ ?_); clear hK K)
        refine tree_load ⟨g, 7, none⟩ (.map (some bm)) (by kernel_rfl) rfl (by kernel_rfl) (fun w' h => h.cell g7) ?_
        dsimp only [Act.put]
        simp only [List.setIfInBounds_toArray, List.set_cons_zero, List.set_cons_succ]
        repeat (refine tree_step rfl (fun K hK => ?_); go_big_quiet_step ((intro _; rfl)); refine wpQuiet_nil (hK _ ?_); clear hK K)
        refine tree_load ⟨r, 0, none⟩ (.int .i64 (i : Int)) (by kernel_rfl) rfl (by kernel_rfl) (fun w' h => h.cell k0) ?_
        dsimp only [Act.put]
        simp only [List.setIfInBounds_toArray, List.set_cons_zero, List.set_cons_succ]
        repeat (refine tree_step rfl (fun K hK => ?_); go_big_quiet_step ((intro _; rfl)); refine wpQuiet_nil (hK _ ?_); clear hK K)
        have hud : Up wc wc.drew := (Up.refl wc).drew
        refine tree_do (fun K hK => ?_)
        go_wp2_with (refine wpl_mapDel wc.drew rfl _ _ 91 3 rfl 55 Try.underlying3 Try.underlying91 bm n f rfl (hmap.up hud) (i : Int) rfl hik ?_; intro w9 hm9 hx9)
        refine ⟨trivial, ?_⟩
        refine tree_nil ?_
        go_wp2_with fail
        go_ret
        have hfin := (HD3.out.up hud).dropped (i : Int) hx9 hm9
        have hq : crashPage ⟨i, kn, kq⟩ (s.wt i) (s.pg.getD i []) = q2 := by
          unfold crashPage
          rw [HM.out, HKL.out, HQ2.out, HQ1.out]
        have hks : keepS s ⟨i, kn, kq⟩ = { s with pg := s.pg.set i q2, wt := fun q => if q = (i : Int) then [] else s.wt q } := by
          unfold keepS
          simp only [Int.toNat_natCast]
          rw [hq]
        refine ⟨?_, ⟨_, _, _, _, _, by rw [hks]; exact hfin⟩, ?_⟩
        · show Ending.returned (Value.int .i64 (K : Int)) = _
          rw [HM.out, HKL.out]
        · exact ((HU.out.x S).trans ((HX2.out.trans HX3.out).trans ((hud.x _).trans (hx9.mono fun b _ e => by subst e; exact HD3.out.sbm))))
end Go.Proofs.Ytehdigkjbobndaa
