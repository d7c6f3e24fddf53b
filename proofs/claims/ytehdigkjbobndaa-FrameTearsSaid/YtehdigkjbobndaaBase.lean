/- Words for the walks, over any program: slices that read as lists, what a call may have changed. -/
import Derived.WalkKit
import Derived.WalkSpells
import Derived.WalkLawsBesides
import Derived.Lib.Hide
import Derived.Deep.QuietTactic
import Derived.BigQuiet
import Derived.Deep.LoopGhost
import Derived.Deep.DeepFit
import Derived.Deep.RegionHeld3
import Derived.Deep.DeepCutAuto
import Derived.Lib.SlBytesConst
namespace Go.Proofs.Ytehdigkjbobndaa
open Go.RowKit

/-- A number of a kind's range. -/
structure InK (k : IntKind) (x : Int) : Prop where mk :: (wf : (Lit.int k x).wf = true)
theorem InK.u8 {x : Int} (h : InK .u8 x) : 0 ≤ x ∧ x < 256 := by
  have := h.wf
  simp [Lit.wf, IntKind.min, IntKind.max, IntKind.signed, IntKind.bits] at this
  omega
theorem InK.of_u8 {x : Int} (h0 : 0 ≤ x) (h : x < 256) : InK .u8 x := ⟨by
  simp [Lit.wf, IntKind.min, IntKind.max, IntKind.signed, IntKind.bits]
  omega⟩
theorem InK.i64 {x : Int} (h : InK .i64 x) : -9223372036854775808 ≤ x ∧ x ≤ 9223372036854775807 := by
  have := h.wf
  simp [Lit.wf, IntKind.min, IntKind.max, IntKind.signed, IntKind.bits] at this
  omega
theorem InK.of_i64 {x : Int} (h0 : -9223372036854775808 ≤ x) (h : x ≤ 9223372036854775807) : InK .i64 x := ⟨by
  simp [Lit.wf, IntKind.min, IntKind.max, IntKind.signed, IntKind.bits]
  omega⟩

/-- Of what was there only blocks of F may have changed. -/
structure UpX (F : Nat → Prop) (w w' : World) : Prop where
  os : w'.os = w.os
  tape : w'.tape = w.tape
  output : w'.output = w.output
  size : w.heap.size ≤ w'.heap.size
  block : ∀ k, k < w.heap.size → ¬ F k → w'.heap[k]? = w.heap[k]?
/-- Nothing that was there has changed. -/
structure Up (w w' : World) : Prop where mk :: (out : Below w.heap.size w w')

theorem Up.refl (w : World) : Up w w := ⟨Below.refl _ _⟩
theorem Up.trans {a b c : World} (h : Up a b) (k : Up b c) : Up a c := ⟨h.out.trans (k.out.mono h.out.size)⟩
theorem Up.size {a b : World} (h : Up a b) : a.heap.size ≤ b.heap.size := h.out.size
theorem Up.drew {a b : World} (h : Up a b) : Up a b.drew := ⟨h.out.drew⟩
theorem Up.drewN {a b : World} (h : Up a b) (n : Nat) : Up a (b.drewN n) := ⟨⟨h.out.os, h.out.tape, h.out.output, h.out.size, h.out.block⟩⟩
theorem Up.alloc {a b : World} (h : Up a b) (o : Obj) : Up a (b.alloc o) := ⟨h.out.alloc h.out.size o⟩
theorem Up.setCell {a b : World} (h : Up a b) {p : Addr} (hp : a.heap.size ≤ p.block) (u : Value) : Up a (b.setCell p u) := ⟨h.out.setCell hp u⟩
theorem Up.of_x {a b : World} {F : Nat → Prop} (h : UpX F a b) (hF : ∀ k, k < a.heap.size → ¬ F k) : Up a b := ⟨h.os, h.tape, h.output, h.size, fun k hk => h.block k hk (hF k hk)⟩
theorem Up.x {a b : World} (h : Up a b) (F : Nat → Prop) : UpX F a b := ⟨h.out.os, h.out.tape, h.out.output, h.out.size, fun k hk _ => h.out.block k hk⟩
theorem Up.thenx {a b c : World} {F : Nat → Prop} (h : Up a b) (k : UpX F b c) (hF : ∀ i, i < a.heap.size → ¬ F i) : Up a c :=
  ⟨k.os.trans h.out.os, k.tape.trans h.out.tape, k.output.trans h.out.output, Nat.le_trans h.size k.size, fun i hi => (k.block i (Nat.lt_of_lt_of_le hi h.size) (hF i hi)).trans (h.out.block i hi)⟩
theorem Up.cell {a b : World} (h : Up a b) {p : Addr} {v : Value} (hc : a.cell? p = some v) : b.cell? p = some v := (h.out.cell (World.block_lt_of_cell? a p hc)).trans hc
theorem Up.frozen {a b : World} (h : Up a b) {p : Addr} (hp : p.block < a.heap.size) : b.frozen? p = a.frozen? p := h.out.frozen hp
theorem Up.heap {a b : World} (h : Up a b) {k : Nat} {o : Obj} (hk : a.heap[k]? = some o) : b.heap[k]? = some o := (h.out.block k (Array.getElem?_eq_some_iff.1 hk).1).trans hk
theorem Up.grown {a b c : World} {row : Option Nat} (h : Up a b) (hg : b.grownBy c row) (hr : ∀ k, row = some k → a.heap.size ≤ k) : Up a c := ⟨h.out.grown hg h.size hr⟩

theorem UpX.refl (F : Nat → Prop) (w : World) : UpX F w w := ⟨rfl, rfl, rfl, Nat.le_refl _, fun _ _ _ => rfl⟩
theorem UpX.trans {F : Nat → Prop} {a b c : World} (h : UpX F a b) (k : UpX F b c) : UpX F a c :=
  ⟨k.os.trans h.os, k.tape.trans h.tape, k.output.trans h.output, Nat.le_trans h.size k.size, fun i hi hF => (k.block i (Nat.lt_of_lt_of_le hi h.size) hF).trans (h.block i hi hF)⟩
theorem UpX.mono {F G : Nat → Prop} {a b : World} (h : UpX F a b) (hG : ∀ k, k < a.heap.size → F k → G k) : UpX G a b := ⟨h.os, h.tape, h.output, h.size, fun k hk hF => h.block k hk fun f => hF (hG k hk f)⟩
/-- A later step that changes F, or what is new. -/
theorem UpX.then_ {F G : Nat → Prop} {a b c : World} (h : UpX F a b) (k : UpX G b c) (hG : ∀ i, i < a.heap.size → G i → F i) : UpX F a c :=
  ⟨k.os.trans h.os, k.tape.trans h.tape, k.output.trans h.output, Nat.le_trans h.size k.size, fun i hi hF => (k.block i (Nat.lt_of_lt_of_le hi h.size) fun g => hF (hG i hi g)).trans (h.block i hi hF)⟩
theorem UpX.cell {F : Nat → Prop} {a b : World} (h : UpX F a b) {p : Addr} {v : Value} (hc : a.cell? p = some v) (hF : ¬ F p.block) : b.cell? p = some v :=
  (World.cell?_of_block (h.block p.block (World.block_lt_of_cell? a p hc) hF)).trans hc
theorem UpX.heap {F : Nat → Prop} {a b : World} (h : UpX F a b) {k : Nat} {o : Obj} (hk : a.heap[k]? = some o) (hF : ¬ F k) : b.heap[k]? = some o := (h.block k (Array.getElem?_eq_some_iff.1 hk).1 hF).trans hk
theorem UpX.setCell {F : Nat → Prop} {a b : World} (h : UpX F a b) {p : Addr} (hp : p.block < a.heap.size → F p.block) (u : Value) : UpX F a (b.setCell p u) :=
  ⟨h.os, h.tape, h.output, by simpa [World.setCell] using h.size, fun k hk hF => (Below.heap_setCell _ _ _ _ (fun e => hF (by subst e; exact hp hk))).trans (h.block k hk hF)⟩
theorem UpX.one (w : World) (g o : Nat) (v : Value) : UpX (fun b => b = g) w (w.setCell ⟨g, o, none⟩ v) :=
  UpX.setCell (F := fun b => b = g) (UpX.refl _ w) (p := ⟨g, o, none⟩) (fun _ => rfl) v
theorem UpX.drew {F : Nat → Prop} {a b : World} (h : UpX F a b) : UpX F a b.drew := ⟨h.os, h.tape, h.output, h.size, h.block⟩
theorem UpX.drewN {F : Nat → Prop} {a b : World} (h : UpX F a b) (n : Nat) : UpX F a (b.drewN n) := ⟨h.os, h.tape, h.output, h.size, h.block⟩
theorem UpX.alloc {F : Nat → Prop} {a b : World} (h : UpX F a b) (o : Obj) : UpX F a (b.alloc o) :=
  ⟨h.os, h.tape, h.output, by have := h.size; simp; omega, fun k hk hF => (Below.heap_alloc b o k (Nat.lt_of_lt_of_le hk h.size)).trans (h.block k hk hF)⟩

/-- Only orders have been drawn. -/
structure Qt (w w' : World) : Prop where mk :: (out : ∃ n, w' = w.drewN n)
theorem Qt.refl (w : World) : Qt w w := ⟨⟨0, rfl⟩⟩
theorem Qt.drewN {w w' : World} (h : Qt w w') (n : Nat) : Qt w (w'.drewN n) := by
  obtain ⟨m, rfl⟩ := h.out
  exact ⟨⟨m + n, World.drewN_drewN ..⟩⟩
theorem Qt.trans {a b c : World} (h : Qt a b) (k : Qt b c) : Qt a c := by
  obtain ⟨m, rfl⟩ := k.out
  exact h.drewN m
theorem Qt.up {w w' : World} (h : Qt w w') : Up w w' := by
  obtain ⟨m, rfl⟩ := h.out
  exact (Up.refl w).drewN m
theorem calls_quiet {P : Program} {f : FuncId} {args : Array Value} {w : World} {n : Nat} {v : Value}
    (h : Calls P f args (w.drewN n) fun e w' => e = .returned v ∧ Qt (w.drewN n) w') : Calls P f args (w.drewN n) fun e w'' => e = .returned v ∧ ∃ m, w'' = w.drewN m :=
  Calls.quiet_of (h.mono fun _ _ ⟨he, hq⟩ => ⟨he, hq.out⟩)

/-- A slice (address, length and capacity c) reads as whole numbers of a kind. -/
structure Rd (w : World) (k : IntKind) (A : Option Addr) (c : Nat) (xs : List Int) : Prop where
  le : xs.length ≤ c
  mx : xs.length ≤ 9223372036854775807
  non : A = none → xs.length = 0
  cell : ∀ ad, A = some ad → ∀ j, j < xs.length → w.cell? (ad.add j) = some (.int k (xs.getD j 0))
  wf : ∀ x ∈ xs, InK k x

theorem Rd.len {w : World} {k : IntKind} {A : Option Addr} {c : Nat} {xs : List Int} (h : Rd w k A c xs) : xs.length ≤ 9223372036854775807 := h.mx
theorem Rd.up {w w' : World} {k : IntKind} {A : Option Addr} {c : Nat} {xs : List Int} (h : Rd w k A c xs) (hu : Up w w') : Rd w' k A c xs :=
  ⟨h.le, h.mx, h.non, fun ad e j hj => hu.cell (h.cell ad e j hj), h.wf⟩
theorem Rd.drewN {w : World} {k : IntKind} {A : Option Addr} {c : Nat} {xs : List Int} (h : Rd w k A c xs) (n : Nat) : Rd (w.drewN n) k A c xs := ⟨h.le, h.mx, h.non, h.cell, h.wf⟩
theorem Rd.upx {F : Nat → Prop} {w w' : World} {k : IntKind} {A : Option Addr} {c : Nat} {xs : List Int} (h : Rd w k A c xs) (hu : UpX F w w') (hF : ∀ ad, A = some ad → 0 < xs.length → ¬ F ad.block) : Rd w' k A c xs :=
  ⟨h.le, h.mx, h.non, fun ad e j hj => hu.cell (h.cell ad e j hj) (by rw [show (ad.add j).block = ad.block by unfold Addr.add; split <;> rfl]; exact hF ad e (by omega)), h.wf⟩
theorem Rd.nil (w : World) (k : IntKind) : Rd w k none 0 [] := ⟨Nat.le_refl _, by simp, fun _ => rfl, fun _ _ j hj => absurd hj (by simp), fun _ hx => absurd hx (by simp)⟩
/-- The element at a place: the address, the cell, its range. -/
theorem Rd.at_ {w : World} {k : IntKind} {A : Option Addr} {c : Nat} {xs : List Int} (h : Rd w k A c xs) (i : Nat) (hi : i < xs.length) :
    ∃ ad, A = some ad ∧ w.cell? (ad.add i) = some (.int k (xs.getD i 0)) := by
  cases A with
  | none => have := h.non rfl; have := h.le; omega
  | some ad => exact ⟨ad, rfl, h.cell ad rfl i hi⟩
/-- .. behind a name. -/
theorem Rd.get {w : World} {k : IntKind} {A : Option Addr} {c : Nat} {xs : List Int} (h : Rd w k A c xs) (i : Nat) (hi : i < xs.length) :
    ∃ ad x, A = some ad ∧ w.cell? (ad.add i) = some (.int k x) ∧ Hid (xs.getD i 0 = x) ∧ InK k x := by
  obtain ⟨ad, e, hc⟩ := h.at_ i hi
  refine ⟨ad, _, e, hc, Lib.hid rfl, ?_⟩
  rw [List.getD_eq_getElem?_getD, List.getElem?_eq_getElem hi]
  exact h.wf _ (List.getElem_mem hi)
theorem Rd.range {w : World} {k : IntKind} {A : Option Addr} {c : Nat} {xs : List Int} (h : Rd w k A c xs) (i : Nat) (hi : i < xs.length) : InK k (xs.getD i 0) := by
  rw [List.getD_eq_getElem?_getD, List.getElem?_eq_getElem hi]
  exact h.wf _ (List.getElem_mem hi)
theorem Rd.u8 {w : World} {A : Option Addr} {c : Nat} {xs : List Int} (h : Rd w .u8 A c xs) : ∀ x ∈ xs, 0 ≤ x ∧ x < 256 := fun x hx => (h.wf x hx).u8
theorem Rd.take {w : World} {k : IntKind} {A : Option Addr} {c : Nat} {xs : List Int} (h : Rd w k A c xs) (n : Nat) : Rd w k A c (xs.take n) := by
  have hl := List.length_take_le' n xs
  refine ⟨Nat.le_trans hl h.le, Nat.le_trans hl h.mx, fun e => by have := h.non e; omega, fun ad e j hj => ?_, fun x hx => h.wf x (List.mem_of_mem_take hx)⟩
  rw [h.cell ad e j (by omega)]
  congr 2
  rw [List.length_take] at hj
  simp only [List.getD_eq_getElem?_getD, List.getElem?_take]
  rw [if_pos (by omega)]
theorem add_lit0 (g j : Nat) : (⟨g, 0, none⟩ : Addr).add j = ⟨g, j, none⟩ := by unfold Addr.add; split <;> simp_all
theorem addr_add_add (a : Addr) (i j : Nat) : (a.add i).add j = a.add (i + j) := by
  obtain ⟨b, o, s⟩ := a
  by_cases hi : i = 0
  · subst hi; simp [Addr.add]
  · by_cases hj : j = 0
    · subst hj; simp [Addr.add]
    · simp only [Addr.add, hi, hj, if_false, show ¬ i + j = 0 by omega]
      congr 1
      exact Nat.add_assoc _ _ _
/-- What is cut out of a slice, as the model cuts: up to m of its capacity. -/
theorem Rd.cut {w : World} {k : IntKind} {A : Option Addr} {c : Nat} {xs : List Int} (h : Rd w k A c xs) (l r m : Nat) (hlr : l ≤ r) (hr : r ≤ xs.length) (hrm : r ≤ m) (_ : m ≤ c) :
    Rd w k (if m = l then A else A.map (·.add l)) (m - l) ((xs.take r).drop l) := by
  have hlen : ((xs.take r).drop l).length = r - l := by rw [List.length_drop, List.length_take]; omega
  refine ⟨by rw [hlen]; omega, by have := h.mx; omega, ?_, ?_, fun x hx => h.wf x (List.mem_of_mem_take (List.mem_of_mem_drop hx))⟩
  · intro he
    rw [hlen]
    split at he
    · omega
    · cases A with
      | none => have := h.non rfl; omega
      | some a => cases he
  · intro ad e j hj
    rw [hlen] at hj
    rw [if_neg (by omega)] at e
    cases A with
    | none => cases e
    | some a =>
      simp only [Option.map_some, Option.some.injEq] at e
      subst e
      rw [addr_add_add, h.cell a rfl (l + j) (by omega)]
      congr 2
      simp only [List.getD_eq_getElem?_getD, List.getElem?_drop, List.getElem?_take]
      rw [if_pos (by omega)]

/-! ### Blocks known whole -/
structure Blk (w : World) (g e : Nat) (cs : Array Value) : Prop where mk :: (out : w.heap[g]? = some (.cells cs e (0, 0)))
theorem Blk.lt {w : World} {g e : Nat} {cs : Array Value} (h : Blk w g e cs) : g < w.heap.size := (Array.getElem?_eq_some_iff.1 h.out).1
theorem Blk.new (w : World) (e : Nat) (cs : Array Value) : Blk (w.alloc (.cells cs e)) w.heap.size e cs := ⟨Go.heap_alloc_new w _⟩
theorem Blk.alloc {w : World} {g e : Nat} {cs : Array Value} (h : Blk w g e cs) (o : Obj) : Blk (w.alloc o) g e cs := ⟨(Below.heap_alloc w o g h.lt).trans h.out⟩
theorem Blk.up {w w' : World} {g e : Nat} {cs : Array Value} (h : Blk w g e cs) (hu : Up w w') : Blk w' g e cs := ⟨hu.heap h.out⟩
theorem Blk.upx {F : Nat → Prop} {w w' : World} {g e : Nat} {cs : Array Value} (h : Blk w g e cs) (hu : UpX F w w') (hF : ¬ F g) : Blk w' g e cs := ⟨hu.heap h.out hF⟩
theorem Blk.cell {w : World} {g e : Nat} {cs : Array Value} (h : Blk w g e cs) (j : Nat) : w.cell? ⟨g, j, none⟩ = cs[j]? := cell_of_row w g j cs e (0, 0) h.out
theorem Blk.frozen {w : World} {g e : Nat} {cs : Array Value} (h : Blk w g e cs) (j : Nat) : w.frozen? ⟨g, j, none⟩ = false := frozen_of_row w g j cs e h.out
theorem Blk.set {w : World} {g e : Nat} {cs : Array Value} (h : Blk w g e cs) (i : Nat) (v : Value) : Blk (w.setCell ⟨g, i, none⟩ v) g e (cs.setIfInBounds i v) := ⟨heap_setCell_same w g i cs e v h.out⟩
theorem Blk.other {w : World} {g e : Nat} {cs : Array Value} (h : Blk w g e cs) (a : Addr) (v : Value) (hne : g ≠ a.block) : Blk (w.setCell a v) g e cs := ⟨(heap_setCell_other w a g v hne).trans h.out⟩
theorem Blk.drewN {w : World} {g e : Nat} {cs : Array Value} (h : Blk w g e cs) (n : Nat) : Blk (w.drewN n) g e cs := ⟨h.out⟩
theorem Blk.drew {w : World} {g e : Nat} {cs : Array Value} (h : Blk w g e cs) : Blk w.drew g e cs := ⟨h.out⟩
theorem Blk.row {w : World} {g e : Nat} {cs : Array Value} (h : Blk w g e cs) (new : Array Value) : Blk (w.setRow g new) g e new := ⟨setRow_heap w g cs _ e _ h.out⟩
theorem Blk.row_other {w : World} {g e : Nat} {cs : Array Value} (h : Blk w g e cs) (g' : Nat) (new : Array Value) (hne : g ≠ g') : Blk (w.setRow g' new) g e cs := ⟨(setRow_other w g' g _ hne).trans h.out⟩
theorem Up.setRow {a b : World} (h : Up a b) {g : Nat} (hg : a.heap.size ≤ g) (cs : Array Value) : Up a (b.setRow g cs) :=
  ⟨h.out.trans ⟨rfl, rfl, rfl, by simp, fun k hk => setRow_other b g k cs (by omega)⟩⟩

/-- A slice of its own, whole numbers: it may be appended to. -/
structure Own (w : World) (base e : Nat) (k : IntKind) (v : Value) (xs : List Int) : Prop where
  row : w.ownsRow base e 1 v xs.length (xs.map (.int k))
  wf : ∀ x ∈ xs, InK k x

theorem Own.nil (w : World) (base e : Nat) (k : IntKind) : Own w base e k (.slice none 0 0) [] := ⟨World.ownsRow_nil _ _ _ _, fun _ h => absurd h (by simp)⟩
theorem Own.rd {w : World} {base e : Nat} {k : IntKind} {v : Value} {xs : List Int} (h : Own w base e k v xs) : ∃ A c, v = .slice A xs.length c ∧ Rd w k A c xs := by
  rcases h.row.2 with ⟨rfl, h0⟩ | ⟨g, cap, cur, rfl, _, hh, h1, h2, _, _⟩
  · have hx : xs = [] := List.eq_nil_of_length_eq_zero h0
    subst hx
    exact ⟨none, 0, rfl, Rd.nil _ _⟩
  · refine ⟨_, cap, rfl, h1, Nat.le_trans h1 (by simpa [maxLen] using h2), (fun e => by cases e), ?_, h.wf⟩
    intro ad e j hj
    obtain rfl := Option.some.inj e
    refine h.row.cells (g := g) rfl j _ ?_
    simp [List.getElem?_eq_getElem hj, List.getD_eq_getElem?_getD]
theorem Own.upx {F : Nat → Prop} {w w' : World} {base e : Nat} {k : IntKind} {v : Value} {xs : List Int} (h : Own w base e k v xs) (hu : UpX F w w') (hF : ∀ b, v.ownBlock = some b → ¬ F b) : Own w' base e k v xs := by
  refine ⟨⟨h.row.1, ?_⟩, h.wf⟩
  rcases h.row.2 with hn | ⟨g, cap, cur, rfl, hb, hg, r⟩
  · exact .inl hn
  · exact .inr ⟨g, cap, cur, rfl, hb, hu.heap hg (hF g rfl), r⟩
theorem Own.up {w w' : World} {base e : Nat} {k : IntKind} {v : Value} {xs : List Int} (h : Own w base e k v xs) (hu : Up w w') : Own w' base e k v xs := h.upx (hu.x fun _ => False) fun _ _ f => f
theorem Own.mono {w : World} {base base' e : Nat} {k : IntKind} {v : Value} {xs : List Int} (h : Own w base e k v xs) (hb : base' ≤ base) : Own w base' e k v xs := by
  refine ⟨⟨h.row.1, ?_⟩, h.wf⟩
  rcases h.row.2 with hn | ⟨g, cap, cur, rfl, hg, r⟩
  · exact .inl hn
  · exact .inr ⟨g, cap, cur, rfl, Nat.le_trans hb hg, r⟩
theorem Own.lt {w : World} {base e : Nat} {k : IntKind} {v : Value} {xs : List Int} (h : Own w base e k v xs) : ∀ b, v.ownBlock = some b → base ≤ b ∧ b < w.heap.size := h.row.lt

/-- A store into a slice of one's own. -/
theorem Own.store {w : World} {base e : Nat} {k : IntKind} {v : Value} {xs : List Int} (h : Own w base e k v xs) (i : Nat) (hi : i < xs.length) :
    ∃ g c, v = .slice (some ⟨g, 0, none⟩) xs.length c ∧ base ≤ g ∧ w.cell? ⟨g, i, none⟩ = some (.int k (xs.getD i 0)) ∧ w.frozen? ⟨g, i, none⟩ = false ∧ ∀ y, InK k y → Own (w.setCell ⟨g, i, none⟩ (.int k y)) base e k v (xs.set i y) := by
  rcases h.row.2 with ⟨rfl, h0⟩ | ⟨g, cap, cur, rfl, hb, hh, h1, h2, h3, h4⟩
  · omega
  · have hB : Blk w g e cur := ⟨hh⟩
    refine ⟨g, cap, rfl, hb, ?_, hB.frozen i, fun y hy => ⟨⟨by simp, .inr ⟨g, cap, cur.setIfInBounds i (.int k y), ?_, hb, (hB.set i _).out, ?_, h2, by simpa using h3, ?_⟩⟩, ?_⟩⟩
    · have := h.row.cells (g := g) rfl i (.int k (xs.getD i 0)) (by simp [List.getElem?_eq_getElem hi, List.getD_eq_getElem?_getD])
      rwa [add_lit0] at this
    · simp
    · simpa using h1
    · simp only [Nat.mul_one, List.length_set, Array.toList_setIfInBounds] at h4 ⊢
      rw [List.take_set, h4, List.map_set]
    · intro x hx
      rcases List.mem_or_eq_of_mem_set hx with h5 | rfl
      · exact h.wf x h5
      · exact hy

/-- A new slice of whole numbers is returned; nothing that was there has changed. -/
structure RetOwn (w : World) (e : Nat) (k : IntKind) (xs : List Int) (en : Ending) (w' : World) : Prop where mk ::
  out : ∃ v, en = .returned v ∧ Own w' w.heap.size e k v xs ∧ Up w w'
theorem RetOwn.of {w w' : World} {e : Nat} {k : IntKind} {xs : List Int} {v : Value} (h : Own w' w.heap.size e k v xs) (hu : Up w w') : RetOwn w e k xs (.returned v) w' := ⟨v, rfl, h, hu⟩
/-- A block just laid, as a slice of one's own. -/
theorem Own.lit (W : World) (base e : Nat) (k : IntKind) (xs : List Int) (hb : base ≤ W.heap.size) (hx : xs.length ≤ 9223372036854775807) (hwf : ∀ x ∈ xs, InK k x) (n : Nat) (hn : n = xs.length) (arr : Array Value) (ha : arr = (xs.map (Value.int k)).toArray) :
    Own (W.alloc (.cells arr e)) base e k (.slice (some ⟨W.heap.size, 0, none⟩) n n) xs := by
  subst hn ha
  refine ⟨⟨by simp, .inr ⟨W.heap.size, _, _, rfl, hb, heap_alloc_new W _, Nat.le_refl _, by simpa [maxLen] using hx, by simp, List.take_of_length_le (by simp)⟩⟩, hwf⟩

theorem run_append_none {P : Program} {w : World} (base : Nat) (t ty e : TypeId) (i : TypeInfo) (size : Nat) (ht : P.underlying t = some (.slice e)) (hi : P.info? e = some i)
    (v : Value) (n c : Nat) (xs : List Value) (hown : w.ownsRow base e size v n xs) : (Builtin.append_ #[t, t] ty #[v, .slice none 0 c]).run P w = .ok v w := by
  rcases hown.2 with ⟨rfl, rfl⟩ | ⟨g, cap, cur, rfl, _, _, hnc, _⟩
  · simp [Builtin.append_, run_underlying ht, sizeOf, typeInfo, hi, Builtin.lenOf, Builtin.firstCells]
  · simp [Builtin.append_, run_underlying ht, sizeOf, typeInfo, hi, Builtin.lenOf, Builtin.firstCells, hnc, storeCells]
/-- append to a slice of one's own, of a slice that reads as numbers. -/
theorem wpl_append {P : Program} {w : World} {ops : Array Oper} {rest : List Oper} {a : Act} {Q : Exit → Act → World → Prop} {dst : Option Tmp} {ty : TypeId} {pos : String} {after : Array Edge}
    {s x : Operand} {t : TypeId} (base e : Nat) (k : IntKind) (bytes : Nat) (ht : P.underlying t = some (.slice e)) (hi : (P.info? e).map (fun i => (i.zero, i.size, i.bytes)) = some (some (.int k 0), 1, bytes))
    (v : Value) (xs : List Int) (hs : a.eval s = v) (hown : Own w base e k v xs)
    (A : Option Addr) (m c : Nat) (ys : List Int) (hx : a.eval x = .slice A m c) (hm : m = ys.length) (hy : Rd w k A c ys)
    (hb : (xs.length + ys.length) * bytes ≤ 140737488355328) (hbytes : 1 ≤ bytes) (hbase : base ≤ w.heap.size)
    (h : ∀ v' w', Own w' base e k v' (xs ++ ys) → UpX (fun b => v.ownBlock = some b) w w' → (v' = .slice none 0 0 ↔ v = .slice none 0 0 ∧ ys = []) → wpList P ops Q rest (a.put dst v') w') :
    wpList P ops Q ({ dst := dst, op := .call { callee := .builtin .append, args := #[s, x], argTypes := #[t, t] }, type := ty, pos := pos, after := after, guard := none } :: rest) a w := by
  obtain ⟨i, hi, hz, hsz, hby⟩ := info_parts hi
  have hwf : ∀ z ∈ xs ++ ys, InK k z := fun z hz => by rcases List.mem_append.1 hz with h1 | h1; exact hown.wf z h1; exact hy.wf z h1
  have hmax : xs.length + ys.length ≤ maxLen := by
    have : (xs.length + ys.length) * 1 ≤ (xs.length + ys.length) * bytes := Nat.mul_le_mul_left _ hbytes
    simp only [maxLen]; omega
  cases A with
  | none =>
    have hy0 : ys = [] := List.eq_nil_of_length_eq_zero (hy.non rfl)
    subst hy0
    have hm0 : m = 0 := hm
    subst hm0
    refine wpList_plain rfl fun K hK => ?_
    have hrun := run_append_none (P := P) (w := w) base t ty e i 1 ht hi v xs.length c _ hown.row
    unfold Oper.wp
    subst hs
    simp [execOp, resolve, invoke, builtin, hx, hrun, Result.andThen]
    exact hK _ _ (h _ w (by simpa using hown) (UpX.refl _ _) (by simp))
  | some ad =>
    refine wpList_append_own w rfl s x t rfl base e i (.int k 0) 1 bytes ht hi hz hsz hby rfl (by decide) v xs.length _ hs hown.row ad m c (ys.map (.int k)) hx (by simp [hm]) ?_ ?_ (by rw [hm]; exact hmax) (by rw [hm]; exact hb) hbase ?_
    · intro j u hu
      obtain ⟨hj, rfl⟩ := List.getElem?_eq_some_iff.1 hu
      simp only [List.length_map] at hj
      rw [hy.cell ad rfl j hj]
      simp [List.getD_eq_getElem?_getD, List.getElem?_eq_getElem hj]
    · intro u hu
      obtain ⟨_, _, rfl⟩ := List.mem_map.1 hu
      rfl
    · intro v' w' h1 h2 h3
      refine h v' w' ⟨?_, hwf⟩ ⟨h2.os, h2.tape, h2.output, h2.size, fun b hb hne => h2.block b hb fun e => hne e.symm⟩ ?_
      · subst hm; simpa using h1
      · rw [h3, hm]
        simp [List.length_eq_zero_iff]

/-- A slice of its own, of whatever values of one cell. -/
structure OwnV (w : World) (base e : Nat) (v : Value) (vs : List Value) : Prop where mk :: (row : w.ownsRow base e 1 v vs.length vs)
theorem OwnV.nil (w : World) (base e : Nat) : OwnV w base e (.slice none 0 0) [] := ⟨World.ownsRow_nil _ _ _ _⟩
theorem OwnV.upx {F : Nat → Prop} {w w' : World} {base e : Nat} {v : Value} {vs : List Value} (h : OwnV w base e v vs) (hu : UpX F w w') (hF : ∀ b, v.ownBlock = some b → ¬ F b) : OwnV w' base e v vs := by
  refine ⟨⟨h.row.1, ?_⟩⟩
  rcases h.row.2 with hn | ⟨g, cap, cur, rfl, hb, hg, r⟩
  · exact .inl hn
  · exact .inr ⟨g, cap, cur, rfl, hb, hu.heap hg (hF g rfl), r⟩
theorem OwnV.up {w w' : World} {base e : Nat} {v : Value} {vs : List Value} (h : OwnV w base e v vs) (hu : Up w w') : OwnV w' base e v vs := h.upx (hu.x fun _ => False) fun _ _ f => f
theorem OwnV.lt {w : World} {base e : Nat} {v : Value} {vs : List Value} (h : OwnV w base e v vs) : ∀ b, v.ownBlock = some b → base ≤ b ∧ b < w.heap.size := h.row.lt
theorem OwnV.mono {w : World} {base base' e : Nat} {v : Value} {vs : List Value} (h : OwnV w base e v vs) (hb : base' ≤ base) : OwnV w base' e v vs := by
  refine ⟨⟨h.row.1, ?_⟩⟩
  rcases h.row.2 with hn | ⟨g, cap, cur, rfl, hg, r⟩
  · exact .inl hn
  · exact .inr ⟨g, cap, cur, rfl, Nat.le_trans hb hg, r⟩
theorem OwnV.slice {w : World} {base e : Nat} {v : Value} {vs : List Value} (h : OwnV w base e v vs) :
    ∃ A c, v = .slice A vs.length c ∧ vs.length ≤ c ∧ c ≤ 9223372036854775807 ∧ (A = none → c = 0) ∧ (∀ ad, A = some ad → v.ownBlock = some ad.block ∧ ∀ j u, vs[j]? = some u → w.cell? (ad.add j) = some u) := by
  rcases h.row.2 with ⟨rfl, h0⟩ | ⟨g, cap, cur, rfl, _, hh, h1, h2, _, _⟩
  · exact ⟨none, 0, by rw [h0], by omega, by omega, fun _ => rfl, fun _ e => by cases e⟩
  · refine ⟨_, cap, rfl, h1, by simpa [maxLen] using h2, (fun e => by cases e), ?_⟩
    intro ad e
    obtain rfl := Option.some.inj e
    exact ⟨rfl, h.row.cells (g := g) rfl⟩
/-- Rows of unlike element types are unlike rows. -/
theorem rows_ne {w : World} {b b' e e' s s' n n' : Nat} {v v' : Value} {xs xs' : List Value} (h : w.ownsRow b e s v n xs) (h' : w.ownsRow b' e' s' v' n' xs') (hne : e ≠ e') : ∀ k, v.ownBlock = some k → ¬ v'.ownBlock = some k := by
  intro k hk hk'
  rcases h.2 with ⟨rfl, _⟩ | ⟨g, cap, cur, rfl, _, hh, _⟩
  · simp [Value.ownBlock] at hk
  · rcases h'.2 with ⟨rfl, _⟩ | ⟨g', cap', cur', rfl, _, hh', _⟩
    · simp [Value.ownBlock] at hk'
    · simp only [Value.ownBlock, Option.some.injEq] at hk hk'
      subst hk
      subst hk'
      rw [hh] at hh'
      injection hh' with hh'
      injection hh' with _ ht
      exact hne ht

/-- append to a slice of one's own, of values that lie in cells. -/
theorem wpl_appendV {P : Program} {w : World} {ops : Array Oper} {rest : List Oper} {a : Act} {Q : Exit → Act → World → Prop} {dst : Option Tmp} {ty : TypeId} {pos : String} {after : Array Edge}
    {s x : Operand} {t : TypeId} (base e : Nat) (z : Value) (bytes : Nat) (ht : P.underlying t = some (.slice e)) (hi : (P.info? e).map (fun i => (i.zero, i.size, i.bytes)) = some (some z, 1, bytes)) (hz1 : z.cells.size = 1)
    (v : Value) (vs : List Value) (hs : a.eval s = v) (hown : OwnV w base e v vs)
    (ad : Addr) (m c : Nat) (news : List Value) (hx : a.eval x = .slice (some ad) m c) (hm : m = news.length) (hnews : ∀ j u, news[j]? = some u → w.cell? (ad.add j) = some u) (h1c : ∀ u ∈ news, u.oneCell' = true)
    (hb : (vs.length + news.length) * bytes ≤ 140737488355328) (hbytes : 1 ≤ bytes) (hbase : base ≤ w.heap.size)
    (h : ∀ v' w', OwnV w' base e v' (vs ++ news) → UpX (fun b => v.ownBlock = some b) w w' → wpList P ops Q rest (a.put dst v') w') :
    wpList P ops Q ({ dst := dst, op := .call { callee := .builtin .append, args := #[s, x], argTypes := #[t, t] }, type := ty, pos := pos, after := after, guard := none } :: rest) a w := by
  obtain ⟨i, hi, hz, hsz, hby⟩ := info_parts hi
  have hmax : vs.length + news.length ≤ maxLen := by
    have : (vs.length + news.length) * 1 ≤ (vs.length + news.length) * bytes := Nat.mul_le_mul_left _ hbytes
    simp only [maxLen]; omega
  refine wpList_append_own w rfl s x t rfl base e i z 1 bytes ht hi hz hsz hby hz1 (by decide) v vs.length _ hs hown.row ad m c news hx (by simp [hm]) hnews h1c (by rw [hm]; exact hmax) (by rw [hm]; exact hb) hbase ?_
  intro v' w' h1 h2 h3
  refine h v' w' ⟨?_⟩ ⟨h2.os, h2.tape, h2.output, h2.size, fun b hb hne => h2.block b hb fun e => hne e.symm⟩
  subst hm; simpa using h1

theorem oneCell_cells {u : Value} (h : u.oneCell' = true) : u.cells = #[u] := by cases u <;> simp_all [Value.cells, Value.oneCell']
theorem run_lit1 {P : Program} (w : World) {t e : TypeId} {z : Value} {bytes : Nat} (ht : P.underlying t = some (.slice e)) (hi : (P.info? e).map (fun i => (i.zero, i.size, i.bytes)) = some (some z, 1, bytes)) (u : Value) (hu : u.oneCell' = true) :
    (Instr.buildSlice t 1 #[(0, u)]).run P w = .ok (.slice (some ⟨w.heap.size, 0, none⟩) 1 1) (w.alloc (.cells #[u] e)) := by
  obtain ⟨i, hi, hz, hsz, hby⟩ := info_parts hi
  have hc := oneCell_cells hu
  simp [Instr.buildSlice, run_underlying ht, sizeOf, typeInfo, hi, hsz, zeroValue, hz, Instr.fill, hc, newRow]
  rw [show Array.range 1 = #[0] from rfl]
  simp
/-- append of one value: the literal of one element, and the append. -/
theorem wpl_push {P : Program} {w : World} {ops : Array Oper} {rest : List Oper} {a : Act} {Q : Exit → Act → World → Prop} {d1 : Tmp} {dst : Option Tmp} {ty ty1 : TypeId} {pos pos1 : String} {after after1 : Array Edge}
    {s x : Operand} {t : TypeId} (base e : Nat) (z : Value) (bytes : Nat) (ht : P.underlying t = some (.slice e)) (hi : (P.info? e).map (fun i => (i.zero, i.size, i.bytes)) = some (some z, 1, bytes)) (hz1 : z.cells.size = 1)
    (v : Value) (vs : List Value) (u : Value) (hx : a.eval x = u) (hu : u.oneCell' = true) (hs : ∀ y, (a.put (some d1) y).eval s = v) (hd : ∀ y, (a.put (some d1) y).eval (.tmp d1) = y)
    (hown : OwnV w base e v vs) (hb : (vs.length + 1) * bytes ≤ 140737488355328) (hbytes : 1 ≤ bytes) (hbase : base ≤ w.heap.size)
    (h : ∀ v' w', OwnV w' base e v' (vs ++ [u]) → UpX (fun b => v.ownBlock = some b) w w' → wpList P ops Q rest ((a.put (some d1) (.slice (some ⟨w.heap.size, 0, none⟩) 1 1)).put dst v') w') :
    wpList P ops Q ({ dst := some d1, op := .buildSlice t 1 #[(0, x)], type := ty1, pos := pos1, after := after1, guard := none } ::
      { dst := dst, op := .call { callee := .builtin .append, args := #[s, .tmp d1], argTypes := #[t, t] }, type := ty, pos := pos, after := after, guard := none } :: rest) a w := by
  refine wpList_plain rfl fun K hK => ?_
  have hrun := run_lit1 (P := P) w ht hi u hu
  unfold Oper.wp
  simp [execOp, hx, hrun, Result.andThen]
  refine hK _ _ ?_
  have hup := (Up.refl w).alloc (.cells #[u] e)
  refine wpl_appendV base e z bytes ht hi hz1 v vs (hs _) (hown.up hup) ⟨w.heap.size, 0, none⟩ 1 1 [u] (hd _) rfl ?_ (by simp [hu]) (by simpa using hb) hbytes (by simp; omega) ?_
  · intro j y hj
    cases j with
    | zero =>
      simp only [List.getElem?_cons_zero, Option.some.injEq] at hj
      subst hj
      exact (Blk.new w e #[u]).cell 0
    | succ j => simp at hj
  · intro v' w' h1 h2
    refine h v' w' h1 ?_
    exact (hup.x _).trans h2

/-- .. of a whole number. -/
theorem wpl_push_int {P : Program} {w : World} {ops : Array Oper} {rest : List Oper} {a : Act} {Q : Exit → Act → World → Prop} {d1 : Tmp} {dst : Option Tmp} {ty ty1 : TypeId} {pos pos1 : String} {after after1 : Array Edge}
    {s x : Operand} {t : TypeId} (base e : Nat) (k : IntKind) (bytes : Nat) (ht : P.underlying t = some (.slice e)) (hi : (P.info? e).map (fun i => (i.zero, i.size, i.bytes)) = some (some (.int k 0), 1, bytes))
    (v : Value) (xs : List Int) (n : Int) (hx : a.eval x = .int k n) (hn : InK k n) (hs : ∀ y, (a.put (some d1) y).eval s = v) (hd : ∀ y, (a.put (some d1) y).eval (.tmp d1) = y)
    (hown : Own w base e k v xs) (hb : (xs.length + 1) * bytes ≤ 140737488355328) (hbytes : 1 ≤ bytes) (hbase : base ≤ w.heap.size)
    (h : ∀ v' w', Own w' base e k v' (xs ++ [n]) → UpX (fun b => v.ownBlock = some b) w w' → wpList P ops Q rest ((a.put (some d1) (.slice (some ⟨w.heap.size, 0, none⟩) 1 1)).put dst v') w') :
    wpList P ops Q ({ dst := some d1, op := .buildSlice t 1 #[(0, x)], type := ty1, pos := pos1, after := after1, guard := none } ::
      { dst := dst, op := .call { callee := .builtin .append, args := #[s, .tmp d1], argTypes := #[t, t] }, type := ty, pos := pos, after := after, guard := none } :: rest) a w := by
  refine wpl_push base e (.int k 0) bytes ht hi rfl v (xs.map (.int k)) (.int k n) hx rfl hs hd ⟨by simpa using hown.row⟩ (by simpa using hb) hbytes hbase ?_
  intro v' w' h1 h2
  refine h v' w' ⟨by simpa using h1.row, ?_⟩ h2
  intro y hy
  rcases List.mem_append.1 hy with h3 | h3
  · exact hown.wf y h3
  · rw [List.mem_singleton.1 h3]; exact hn

/-- A cut of a slice that reads as numbers: x[l:r]. -/
theorem wpl_slice {P : Program} {w : World} {ops : Array Oper} {rest : List Oper} {a : Act} {Q : Exit → Act → World → Prop} {dst : Option Tmp} {ty : TypeId} {pos : String} {after : Array Edge}
    {x lo hi : Operand} {t : TypeId} (e bytes : Nat) (k : IntKind) (A : Option Addr) (n c : Nat) (xs : List Int) (kl kh : IntKind) (l r : Int) (ht : P.underlying t = some (.slice e)) (hinf : (P.info? e).map (fun i => (i.zero, i.size, i.bytes)) = some (some (.int k 0), 1, bytes))
    (hx : a.eval x = .slice A n c) (hrd : Rd w k A c xs) (hl : a.eval lo = .int kl l) (hr : a.eval hi = .int kh r) (h0 : 0 ≤ l) (h1 : l ≤ r) (h2 : r ≤ (xs.length : Int))
    (h : ∀ A', Rd w k A' (c - l.toNat) ((xs.take r.toNat).drop l.toNat) → wpList P ops Q rest (a.put dst (.slice A' (r.toNat - l.toNat) (c - l.toNat))) w) :
    wpList P ops Q ({ dst := dst, op := .slice t x (some lo) (some hi) none, type := ty, pos := pos, after := after, guard := none } :: rest) a w := by
  refine wpList_plain rfl fun K hK => ?_
  have hle := hrd.le
  obtain ⟨i, hi, _, hs, _⟩ := info_parts hinf
  have he : P.elem t = e := by simp [Program.elem, ht]
  have hrun := run_slice_lh (P := P) w t A n c (by rw [he]; exact ht) kl kh l r h0 h1 (by omega)
  have hsz : (sizeOf (P.elem t)).run P w = .ok 1 w := by rw [he]; simp [sizeOf, typeInfo, hi, hs]
  have hat := run_sliceAt_slice (P := P) w t (.slice A n c) (some (.int kl l)) (some (.int kh r)) none (by rw [he]; exact ht)
  unfold Oper.wp
  simp only [execOp, hx, hl, hr, Option.map_some, Option.map_none]
  simp [hat, hrun, hsz, Result.andThen, sliced]
  refine hK _ _ ?_
  have := hrd.cut l.toNat r.toNat c (by omega) (by omega) (by omega) (Nat.le_refl _)
  exact h _ this

/-- x[l:]. -/
theorem wpl_slice_lo {P : Program} {w : World} {ops : Array Oper} {rest : List Oper} {a : Act} {Q : Exit → Act → World → Prop} {dst : Option Tmp} {ty : TypeId} {pos : String} {after : Array Edge}
    {x lo : Operand} {t : TypeId} (e bytes : Nat) (k : IntKind) (A : Option Addr) (n c : Nat) (xs : List Int) (kl : IntKind) (l : Int) (ht : P.underlying t = some (.slice e)) (hinf : (P.info? e).map (fun i => (i.zero, i.size, i.bytes)) = some (some (.int k 0), 1, bytes))
    (hx : a.eval x = .slice A n c) (hn : n = xs.length) (hrd : Rd w k A c xs) (hl : a.eval lo = .int kl l) (h0 : 0 ≤ l) (h1 : l ≤ (xs.length : Int))
    (h : ∀ A', Rd w k A' (c - l.toNat) (xs.drop l.toNat) → wpList P ops Q rest (a.put dst (.slice A' (xs.length - l.toNat) (c - l.toNat))) w) :
    wpList P ops Q ({ dst := dst, op := .slice t x (some lo) none none, type := ty, pos := pos, after := after, guard := none } :: rest) a w := by
  refine wpList_plain rfl fun K hK => ?_
  subst hn
  have hle := hrd.le
  obtain ⟨i, hi, _, hs, _⟩ := info_parts hinf
  have he : P.elem t = e := by simp [Program.elem, ht]
  have hrun := run_slice_l (P := P) w t A xs.length c (by rw [he]; exact ht) kl l h0 h1
  have hsz : (sizeOf (P.elem t)).run P w = .ok 1 w := by rw [he]; simp [sizeOf, typeInfo, hi, hs]
  have hat := run_sliceAt_slice (P := P) w t (.slice A xs.length c) (some (.int kl l)) none none (by rw [he]; exact ht)
  unfold Oper.wp
  simp only [execOp, hx, hl, Option.map_some, Option.map_none]
  simp [hat, hrun, hsz, Result.andThen, sliced]
  refine hK _ _ ?_
  have := hrd.cut l.toNat xs.length c (by omega) (Nat.le_refl _) (by omega) (Nat.le_refl _)
  rw [List.take_length] at this
  exact h _ this

/-- x[:r]. -/
theorem wpl_slice_hi {P : Program} {w : World} {ops : Array Oper} {rest : List Oper} {a : Act} {Q : Exit → Act → World → Prop} {dst : Option Tmp} {ty : TypeId} {pos : String} {after : Array Edge}
    {x hi : Operand} {t : TypeId} (e bytes : Nat) (k : IntKind) (A : Option Addr) (n c : Nat) (xs : List Int) (kh : IntKind) (r : Int) (ht : P.underlying t = some (.slice e)) (hinf : (P.info? e).map (fun i => (i.zero, i.size, i.bytes)) = some (some (.int k 0), 1, bytes))
    (hx : a.eval x = .slice A n c) (hrd : Rd w k A c xs) (hr : a.eval hi = .int kh r) (h0 : 0 ≤ r) (h2 : r ≤ (xs.length : Int))
    (h : Rd w k A c (xs.take r.toNat) → wpList P ops Q rest (a.put dst (.slice A r.toNat c)) w) :
    wpList P ops Q ({ dst := dst, op := .slice t x none (some hi) none, type := ty, pos := pos, after := after, guard := none } :: rest) a w := by
  refine wpList_plain rfl fun K hK => ?_
  have hle := hrd.le
  obtain ⟨i, hi, _, hs, _⟩ := info_parts hinf
  have he : P.elem t = e := by simp [Program.elem, ht]
  have hrun := run_slice_h (P := P) w t A n c (by rw [he]; exact ht) kh r h0 (by omega)
  have hsz : (sizeOf (P.elem t)).run P w = .ok 1 w := by rw [he]; simp [sizeOf, typeInfo, hi, hs]
  have hat := run_sliceAt_slice (P := P) w t (.slice A n c) none (some (.int kh r)) none (by rw [he]; exact ht)
  have hA : (if c = 0 then A else A.map (·.add 0)) = A := by
    split
    · rfl
    · cases A <;> simp [Addr.add]
  have hfull : (Instr.sliceAt t (.slice A n c) none (some (.int kh r)) none).run P w = .ok (.slice A r.toNat c) w := by
    rw [hat, hrun, hsz]
    simp only [Result.andThen, sliced, Nat.zero_mul, Nat.sub_zero, hA]
  unfold Oper.wp
  simp only [execOp, hx, hr, Option.map_some, Option.map_none]
  simp [hfull, Result.andThen]
  refine hK _ _ ?_
  have := hrd.cut 0 r.toNat c (by omega) (by omega) (by omega) (Nat.le_refl _)
  simp only [hA, Nat.sub_zero, List.drop_zero] at this
  exact h this

/-! ### Slices of slices of whole numbers -/
structure RdL (w : World) (k : IntKind) (A : Option Addr) (c : Nat) (ls : List (List Int)) : Prop where
  le : ls.length ≤ c
  mx : ls.length ≤ 9223372036854775807
  non : A = none → ls.length = 0
  cell : ∀ ad, A = some ad → ∀ j, j < ls.length → ∃ A' c', w.cell? (ad.add j) = some (.slice A' (ls.getD j []).length c') ∧ Rd w k A' c' (ls.getD j [])
theorem RdL.len {w : World} {k : IntKind} {A : Option Addr} {c : Nat} {ls : List (List Int)} (h : RdL w k A c ls) : ls.length ≤ 9223372036854775807 := h.mx
theorem RdL.up {w w' : World} {k : IntKind} {A : Option Addr} {c : Nat} {ls : List (List Int)} (h : RdL w k A c ls) (hu : Up w w') : RdL w' k A c ls :=
  ⟨h.le, h.mx, h.non, fun ad e j hj => let ⟨A', c', h1, h2⟩ := h.cell ad e j hj; ⟨A', c', hu.cell h1, h2.up hu⟩⟩
theorem RdL.drewN {w : World} {k : IntKind} {A : Option Addr} {c : Nat} {ls : List (List Int)} (h : RdL w k A c ls) (n : Nat) : RdL (w.drewN n) k A c ls :=
  ⟨h.le, h.mx, h.non, fun ad e j hj => let ⟨A', c', h1, h2⟩ := h.cell ad e j hj; ⟨A', c', h1, h2.drewN n⟩⟩
theorem RdL.nil (w : World) (k : IntKind) : RdL w k none 0 [] := ⟨Nat.le_refl _, by simp, fun _ => rfl, fun _ _ j hj => absurd hj (by simp)⟩
theorem Rd.block {w : World} {k : IntKind} {g e n : Nat} {fr : Nat × Nat} {arr : Array Value} (xs : List Int) (hg : w.heap[g]? = some (.cells arr e fr)) (ha : arr = (xs.map (Value.int k)).toArray) (hn : n = xs.length) (hm : xs.length ≤ 9223372036854775807) (hwf : ∀ x ∈ xs, InK k x) :
    Rd w k (some ⟨g, 0, none⟩) n xs := by
  subst ha hn
  refine ⟨Nat.le_refl _, hm, (fun e => by cases e), fun ad e j hj => ?_, hwf⟩
  obtain rfl := Option.some.inj e
  rw [add_lit0, cell_of_row w g j _ _ fr hg]
  simp [List.getElem?_eq_getElem hj, List.getD_eq_getElem?_getD]
theorem RdL.one {w : World} {k : IntKind} {ad A : Option Addr} {c n : Nat} {l : List Int} {a : Addr} (ha : ad = some a) (hc : w.cell? a = some (.slice A n c)) (hn : n = l.length) (hl : Rd w k A c l) : RdL w k ad 1 [l] := by
  subst ha hn
  refine ⟨Nat.le_refl _, by simp, (fun e => by cases e), fun ad e j hj => ?_⟩
  obtain rfl := Option.some.inj e
  obtain rfl : j = 0 := by simp at hj; exact hj
  exact ⟨A, c, by rw [show a.add 0 = a by simp [Addr.add]]; exact hc, hl⟩
theorem RdL.get {w : World} {k : IntKind} {A : Option Addr} {c : Nat} {ls : List (List Int)} (h : RdL w k A c ls) (i : Nat) (hi : i < ls.length) :
    ∃ ad l A' c', A = some ad ∧ w.cell? (ad.add i) = some (.slice A' l.length c') ∧ Rd w k A' c' l ∧ Hid (ls.getD i [] = l) := by
  cases A with
  | none => have := h.non rfl; have := h.le; omega
  | some ad =>
    obtain ⟨A', c', h1, h2⟩ := h.cell ad rfl i hi
    exact ⟨ad, _, A', c', rfl, h1, h2, Lib.hid rfl⟩
/-- .. of which all cells lie in blocks of F. -/
structure RdLF (F : Nat → Prop) (w : World) (k : IntKind) (A : Option Addr) (c : Nat) (ls : List (List Int)) : Prop where
  le : ls.length ≤ c
  mx : ls.length ≤ 9223372036854775807
  non : A = none → ls.length = 0
  cell : ∀ ad, A = some ad → ∀ j, j < ls.length → F ad.block ∧ ∃ A' c', w.cell? (ad.add j) = some (.slice A' (ls.getD j []).length c') ∧ Rd w k A' c' (ls.getD j []) ∧ ∀ ad', A' = some ad' → 0 < (ls.getD j []).length → F ad'.block
theorem addr_add_block (a : Addr) (j : Nat) : (a.add j).block = a.block := by unfold Addr.add; split <;> rfl
theorem Rd.lt {w : World} {k : IntKind} {A : Option Addr} {c : Nat} {xs : List Int} (h : Rd w k A c xs) : ∀ ad, A = some ad → 0 < xs.length → ad.block < w.heap.size := fun ad e h0 => by
  have := World.block_lt_of_cell? w _ (h.cell ad e 0 h0)
  rwa [addr_add_block] at this
theorem RdL.f {w : World} {k : IntKind} {A : Option Addr} {c : Nat} {ls : List (List Int)} (h : RdL w k A c ls) : RdLF (fun b => b < w.heap.size) w k A c ls :=
  ⟨h.le, h.mx, h.non, fun ad e j hj => by
    obtain ⟨A', c', h1, h2⟩ := h.cell ad e j hj
    have := World.block_lt_of_cell? w _ h1
    rw [addr_add_block] at this
    exact ⟨this, A', c', h1, h2, h2.lt⟩⟩
theorem RdLF.rd {F : Nat → Prop} {w : World} {k : IntKind} {A : Option Addr} {c : Nat} {ls : List (List Int)} (h : RdLF F w k A c ls) : RdL w k A c ls :=
  ⟨h.le, h.mx, h.non, fun ad e j hj => let ⟨_, A', c', h1, h2, _⟩ := h.cell ad e j hj; ⟨A', c', h1, h2⟩⟩
theorem RdLF.mono {F G : Nat → Prop} {w : World} {k : IntKind} {A : Option Addr} {c : Nat} {ls : List (List Int)} (h : RdLF F w k A c ls) (hG : ∀ b, F b → G b) : RdLF G w k A c ls :=
  ⟨h.le, h.mx, h.non, fun ad e j hj => let ⟨h0, A', c', h1, h2, h3⟩ := h.cell ad e j hj; ⟨hG _ h0, A', c', h1, h2, fun a e hl => hG _ (h3 a e hl)⟩⟩
theorem RdLF.low {F : Nat → Prop} {w : World} {k : IntKind} {A : Option Addr} {c : Nat} {ls : List (List Int)} (h : RdLF F w k A c ls) : RdLF (fun b => F b ∧ b < w.heap.size) w k A c ls :=
  ⟨h.le, h.mx, h.non, fun ad e j hj => by
    obtain ⟨h0, A', c', h1, h2, h3⟩ := h.cell ad e j hj
    have := World.block_lt_of_cell? w _ h1
    rw [addr_add_block] at this
    exact ⟨⟨h0, this⟩, A', c', h1, h2, fun a e hl => ⟨h3 a e hl, h2.lt a e hl⟩⟩⟩
theorem RdLF.upx {F G : Nat → Prop} {w w' : World} {k : IntKind} {A : Option Addr} {c : Nat} {ls : List (List Int)} (h : RdLF F w k A c ls) (hu : UpX G w w') (hG : ∀ b, F b → ¬ G b) : RdLF F w' k A c ls :=
  ⟨h.le, h.mx, h.non, fun ad e j hj => let ⟨h0, A', c', h1, h2, h3⟩ := h.cell ad e j hj
    ⟨h0, A', c', hu.cell h1 (by rw [addr_add_block]; exact hG _ h0), h2.upx hu fun a e hl => hG _ (h3 a e hl), h3⟩⟩
theorem RdLF.off {F : Nat → Prop} {w : World} {k : IntKind} {ad : Addr} {c : Nat} {ls : List (List Int)} (h : RdLF F w k (some ad) c ls) (j : Nat) (hj : j < ls.length) {l : List Int} {A' : Option Addr} {c' : Nat} (hc : w.cell? (ad.add j) = some (.slice A' l.length c')) :
    ∀ ad', A' = some ad' → 0 < l.length → F ad'.block := by
  obtain ⟨_, A2, c2, h1, _, h3⟩ := h.cell ad rfl j hj
  rw [h1] at hc
  simp only [Option.some.injEq, Value.slice.injEq] at hc
  obtain ⟨rfl, h5, rfl⟩ := hc
  intro ad' e h0
  exact h3 ad' e (by omega)
theorem RdLF.up {F : Nat → Prop} {w w' : World} {k : IntKind} {A : Option Addr} {c : Nat} {ls : List (List Int)} (h : RdLF F w k A c ls) (hu : Up w w') : RdLF F w' k A c ls := h.upx (hu.x fun _ => False) fun _ _ f => f
/-- Values that are slices and read as lists; all their cells in blocks of F. -/
structure Vals (F : Nat → Prop) (w : World) (k : IntKind) (vs : List Value) (ls : List (List Int)) : Prop where
  len : vs.length = ls.length
  at_ : ∀ j, j < ls.length → ∃ A' c', vs[j]? = some (.slice A' (ls.getD j []).length c') ∧ Rd w k A' c' (ls.getD j []) ∧ ∀ ad', A' = some ad' → 0 < (ls.getD j []).length → F ad'.block
theorem Vals.nil (F : Nat → Prop) (w : World) (k : IntKind) : Vals F w k [] [] := ⟨rfl, fun j hj => absurd hj (by simp)⟩
theorem Vals.upx {F G : Nat → Prop} {w w' : World} {k : IntKind} {vs : List Value} {ls : List (List Int)} (h : Vals F w k vs ls) (hu : UpX G w w') (hG : ∀ b, F b → ¬ G b) : Vals F w' k vs ls :=
  ⟨h.len, fun j hj => let ⟨A', c', h1, h2, h3⟩ := h.at_ j hj; ⟨A', c', h1, h2.upx hu fun a e hl => hG _ (h3 a e hl), h3⟩⟩
theorem Vals.up {F : Nat → Prop} {w w' : World} {k : IntKind} {vs : List Value} {ls : List (List Int)} (h : Vals F w k vs ls) (hu : Up w w') : Vals F w' k vs ls := h.upx (hu.x fun _ => False) fun _ _ f => f
theorem Vals.mono {F G : Nat → Prop} {w : World} {k : IntKind} {vs : List Value} {ls : List (List Int)} (h : Vals F w k vs ls) (hG : ∀ b, F b → G b) : Vals G w k vs ls :=
  ⟨h.len, fun j hj => let ⟨A', c', h1, h2, h3⟩ := h.at_ j hj; ⟨A', c', h1, h2, fun a e hl => hG _ (h3 a e hl)⟩⟩
theorem Vals.snoc {F : Nat → Prop} {w : World} {k : IntKind} {vs : List Value} {ls : List (List Int)} (h : Vals F w k vs ls) {A : Option Addr} {c n : Nat} {l : List Int} (hl : Rd w k A c l) (hn : n = l.length) (hF : ∀ ad', A = some ad' → 0 < l.length → F ad'.block) :
    Vals F w k (vs ++ [.slice A n c]) (ls ++ [l]) := by
  subst hn
  refine ⟨by simp [h.len], fun j hj => ?_⟩
  rcases Nat.lt_or_ge j ls.length with hj' | hj'
  · obtain ⟨A', c', h1, h2, h3⟩ := h.at_ j hj'
    have e : (ls ++ [l]).getD j [] = ls.getD j [] := by simp [List.getD_eq_getElem?_getD, List.getElem?_append, hj']
    rw [e]
    exact ⟨A', c', by rw [List.getElem?_append_left (by rw [h.len]; exact hj')]; exact h1, h2, h3⟩
  · have hj2 : j = ls.length := by simp at hj; omega
    subst hj2
    have e : (ls ++ [l]).getD ls.length [] = l := by simp
    rw [e]
    exact ⟨A, c, by rw [← h.len]; simp, hl, hF⟩
theorem flatten_take_le {α : Type} (ls : List (List α)) (k : Nat) : (ls.take k).flatten.length ≤ ls.flatten.length := by
  have h : ls.flatten = (ls.take k).flatten ++ (ls.drop k).flatten := by rw [← List.flatten_append, List.take_append_drop]
  rw [h, List.length_append]
  omega

/-- A literal slice of slices. -/
theorem RdLF.block {F : Nat → Prop} {w : World} {k : IntKind} {g e n : Nat} {fr : Nat × Nat} {arr : Array Value} {ls : List (List Int)} (hg : w.heap[g]? = some (.cells arr e fr)) (hF : F g) (hv : Vals F w k arr.toList ls) (hn : n = ls.length) (hm : ls.length ≤ 9223372036854775807) :
    RdLF F w k (some ⟨g, 0, none⟩) n ls := by
  subst hn
  refine ⟨Nat.le_refl _, hm, (fun e => by cases e), fun ad e j hj => ?_⟩
  obtain rfl := Option.some.inj e
  obtain ⟨A', c', h1, h2, h3⟩ := hv.at_ j hj
  refine ⟨hF, A', c', ?_, h2, h3⟩
  rw [add_lit0, cell_of_row w g j _ _ fr hg]
  simpa using h1
/-- What is left of a slice behind its first l. -/
theorem Rd.drop_ {w : World} {k : IntKind} {A : Option Addr} {c : Nat} {xs : List Int} (h : Rd w k A c xs) (l : Nat) (hl : l ≤ xs.length) :
    Rd w k (if c = l then A else A.map (·.add l)) (c - l) (xs.drop l) := by
  have := h.cut l xs.length c hl (Nat.le_refl _) h.le (Nat.le_refl _)
  rwa [List.take_length] at this
theorem take_succ_getD {α : Type} (l : List α) (k : Nat) (d : α) (h : k < l.length) : l.take (k + 1) = l.take k ++ [l.getD k d] := by
  rw [List.take_succ_eq_append_getElem h, List.getD_eq_getElem?_getD, List.getElem?_eq_getElem h]
  rfl

/-- An own slice of such values reads as the lists. -/
theorem OwnV.rdLF {F : Nat → Prop} {w : World} {base e : Nat} {k : IntKind} {v : Value} {vs : List Value} {ls : List (List Int)} (h : OwnV w base e v vs) (hv : Vals F w k vs ls) (hF : ∀ b, v.ownBlock = some b → F b) :
    ∃ A c, v = .slice A ls.length c ∧ RdLF F w k A c ls := by
  obtain ⟨A, c, rfl, h1, h2, h3, h4⟩ := h.slice
  rw [hv.len] at *
  refine ⟨A, c, rfl, h1, Nat.le_trans h1 h2, (fun e => by have := h3 e; omega), fun ad e j hj => ?_⟩
  obtain ⟨A', c', g1, g2, g3⟩ := hv.at_ j hj
  exact ⟨hF _ (h4 ad e).1, A', c', (h4 ad e).2 j _ g1, g2, g3⟩

/-- A variable whose zero value is a whole array or struct. -/
theorem wpl_alloc {P : Program} {w : World} {ops : Array Oper} {rest : List Oper} {a : Act} {Q : Exit → Act → World → Prop} {dst : Option Tmp} {ty : TypeId} {pos : String} {after : Array Edge}
    {t : TypeId} {cs : Array Value} (hz : (P.info? t).bind (·.zero) = some (.agg cs))
    (h : wpList P ops Q rest (a.put dst (.pointer (some ⟨w.heap.size, 0, none⟩))) (w.alloc (.cells cs t))) :
    wpList P ops Q ({ dst := dst, op := .alloc t, type := ty, pos := pos, after := after, guard := none } :: rest) a w := by
  refine wpList_plain rfl fun K hK => ?_
  obtain ⟨i, hi, hz'⟩ := Option.bind_eq_some_iff.1 hz
  have hrun : (Instr.alloc t true (.tuple #[])).run P w = .ok (.pointer (some ⟨w.heap.size, 0, none⟩)) (w.alloc (.cells cs t)) := by
    simp [Instr.alloc, zeroValue, typeInfo, hi, hz', newVar, newRow, Value.cells]
  unfold Oper.wp
  simp only [execOp]
  simp [hrun, Result.andThen]
  exact hK _ _ h

/-- A variable whose zero value is a whole array or struct, the world behind a name. -/
theorem wpl_alloc' {P : Program} {w : World} {ops : Array Oper} {rest : List Oper} {a : Act} {Q : Exit → Act → World → Prop} {dst : Option Tmp} {ty : TypeId} {pos : String} {after : Array Edge}
    {t : TypeId} {cs : Array Value} (hz : (P.info? t).bind (·.zero) = some (.agg cs))
    (h : ∀ w', Up w w' → Blk w' w.heap.size t cs → w'.heap.size = w.heap.size + 1 → wpList P ops Q rest (a.put dst (.pointer (some ⟨w.heap.size, 0, none⟩))) w') :
    wpList P ops Q ({ dst := dst, op := .alloc t, type := ty, pos := pos, after := after, guard := none } :: rest) a w :=
  wpl_alloc hz (h _ ((Up.refl _).alloc _) (Blk.new _ _ _) (by simp))
/-- A whole array or struct is stored. -/
theorem wpl_store_row {P : Program} {w : World} {ops : Array Oper} {rest : List Oper} {a : Act} {Q : Exit → Act → World → Prop} {dst : Option Tmp} {ty : TypeId} {pos : String} {after : Array Edge}
    {t : TypeId} {x y : Operand} (g e : Nat) (old cells : Array Value) (hx : a.eval x = .pointer (some ⟨g, 0, none⟩)) (hy : a.eval y = .agg cells) (hg : Blk w g e old)
    (hi : (P.info? t).map (·.size) = some cells.size) (ho : old.size = cells.size) (h1 : cells.all (·.oneCell') = true)
    (h : ∀ w', UpX (fun b => b = g) w w' → Blk w' g e cells → w'.heap.size = w.heap.size → wpList P ops Q rest (a.put dst undef) w') :
    wpList P ops Q ({ dst := dst, op := .store t x y, type := ty, pos := pos, after := after, guard := none } :: rest) a w :=
  wpList_store_row rfl t x y rfl g cells hx hy e old hg.out hi ho h1
    (h _ ⟨rfl, rfl, rfl, by simp, fun k _ hk => setRow_other w g k _ hk⟩ (hg.row _) (by simp))
/-- A whole array or struct is loaded. -/
theorem wpl_load_row {P : Program} {w : World} {ops : Array Oper} {rest : List Oper} {a : Act} {Q : Exit → Act → World → Prop} {dst : Option Tmp} {ty : TypeId} {pos : String} {after : Array Edge}
    {t : TypeId} {x : Operand} (g e : Nat) (cs : Array Value) (d : TypeDesc) (hx : a.eval x = .pointer (some ⟨g, 0, none⟩)) (hg : Blk w g e cs)
    (hu : P.underlying t = some d) (hd : (match d with | .struct _ | .array _ _ => true | _ => false) = true) (hi : (P.info? t).map (·.size) = some cs.size)
    (h : wpList P ops Q rest (a.put dst (.agg cs)) w) :
    wpList P ops Q ({ dst := dst, op := .load t x, type := ty, pos := pos, after := after, guard := none } :: rest) a w :=
  wpList_load_row rfl t x rfl g hx e cs (0, 0) d hg.out hu hd hi h
end Go.Proofs.Ytehdigkjbobndaa
