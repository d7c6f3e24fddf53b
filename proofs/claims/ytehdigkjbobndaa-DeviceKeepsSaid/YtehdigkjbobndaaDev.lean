/- Layer 3: a device in memory, its small functions. -/
import Derived.Test.YtehdigkjbobndaaDevP
import Derived.Test.YtehdigkjbobndaaDevB
import Derived.Test.YtehdigkjbobndaaLib1
import Derived.Laws.LoneSync
namespace Go.Proofs.Ytehdigkjbobndaa
open Go.RowKit
set_option maxRecDepth 100000

/-- A device as lists: on or off, armed, what is left, counts, pages, what waits for each. -/
structure DSt where
  off : Bool
  armed : Bool
  left : Int
  rd : Nat
  wr : Nat
  sy : Nat
  pg : List (List Int)
  wt : Int → List (List Int)
/-- .. as it may be. -/
structure DOk (s : DSt) : Prop where
  len : ∀ p ∈ s.pg, p.length = 256
  one : 1 ≤ s.pg.length
  most : s.pg.length ≤ 2048
  wlen : ∀ p, ∀ l ∈ s.wt p, l.length = 256
  win : ∀ p, s.wt p ≠ [] → 0 ≤ p ∧ p < (s.pg.length : Int)
  left : InK .i64 s.left
  wmax : ∀ p, (s.wt p).length ≤ s.wr
/-- The versions that wait for a page: an own slice of slices; their bytes lie in blocks of S that are not the laid ones'. -/
structure WaitI (w : World) (S : Nat → Prop) (gl : Nat) (v : Value) (ls : List (List Int)) : Prop where mk ::
  out : ∃ vs, OwnV w 0 22 v vs ∧ Vals (fun b => S b ∧ b ≠ gl ∧ Typed w 5 b) w .u8 vs ls ∧ ∀ b, v.ownBlock = some b → S b
theorem WaitI.upx {w w' : World} {S F : Nat → Prop} {gl : Nat} {v : Value} {ls : List (List Int)} (h : WaitI w S gl v ls) (hu : UpX F w w') (hs : ∀ b, v.ownBlock = some b → ¬ F b) (hc : ∀ b, S b → b ≠ gl → Typed w 5 b → ¬ F b) : WaitI w' S gl v ls := by
  obtain ⟨vs, h1, h2, h3⟩ := h.out
  exact ⟨vs, h1.upx hu hs, (h2.upx hu fun b hb => hc b hb.1 hb.2.1 hb.2.2).mono fun b hb => ⟨hb.1, hb.2.1, hb.2.2.upx hu (hc b hb.1 hb.2.1 hb.2.2)⟩, h3⟩
theorem WaitI.mono {w : World} {S S' : Nat → Prop} {gl : Nat} {v : Value} {ls : List (List Int)} (h : WaitI w S gl v ls) (hS : ∀ b, S b → S' b) : WaitI w S' gl v ls := by
  obtain ⟨vs, h1, h2, h3⟩ := h.out
  exact ⟨vs, h1, h2.mono fun b hb => ⟨hS b hb.1, hb.2⟩, fun b hb => hS b (h3 b hb)⟩
theorem WaitI.typed {w : World} {S : Nat → Prop} {gl : Nat} {v : Value} {ls : List (List Int)} (h : WaitI w S gl v ls) : ∀ b, v.ownBlock = some b → Typed w 22 b := by
  obtain ⟨vs, h1, h2, h3⟩ := h.out
  exact h1.typed
theorem WaitI.slice {w : World} {S : Nat → Prop} {gl : Nat} {v : Value} {ls : List (List Int)} (h : WaitI w S gl v ls) : ∃ A c, v = .slice A ls.length c ∧ ls.length ≤ c ∧ RdL w .u8 A c ls := by
  obtain ⟨vs, h1, h2, h3⟩ := h.out
  obtain ⟨A, c, e, h4⟩ := h1.rdLF (F := fun _ => True) (h2.mono fun _ _ => trivial) fun _ _ => trivial
  exact ⟨A, c, e, h4.le, h4.rd⟩
structure WaitsI (w : World) (S : Nat → Prop) (gl : Nat) (f : Int → Option Value) (wt : Int → List (List Int)) : Prop where
  at_ : ∀ p, (f p = none ∧ wt p = []) ∨ ∃ v, f p = some v ∧ wt p ≠ [] ∧ WaitI w S gl v (wt p)
  sep : ∀ p q u v, f p = some u → f q = some v → p ≠ q → ∀ b, u.ownBlock = some b → ¬ v.ownBlock = some b

abbrev devCells (s : DSt) (gl cap bm : Nat) : Array Value := #[.bool s.off, .bool s.armed, .int .i64 s.left, .int .i64 s.rd, .int .i64 s.wr, .int .i64 s.sy, .slice (some ⟨gl, 0, none⟩) (256 * s.pg.length) cap, .map (some bm)]
/-- A device in memory, in blocks of S. -/
structure DevX (w : World) (g : Nat) (S : Nat → Prop) (s : DSt) (gl cap bm n : Nat) (f : Int → Option Value) : Prop where
  b : Blk w g 102 (devCells s gl cap bm)
  laid : Own w 0 5 .u8 (.slice (some ⟨gl, 0, none⟩) (256 * s.pg.length) cap) s.pg.flatten
  map : MapI Try.prog 3 w bm n f
  nle : n ≤ s.wr
  wts : WaitsI w S gl f s.wt
  sg : S g
  sgl : S gl
  sbm : S bm
  ne1 : g ≠ gl
  ne2 : g ≠ bm
  ne3 : gl ≠ bm
  lt : ∀ b, S b → b < w.heap.size
  ok : DOk s
structure DevI (w : World) (g : Nat) (S : Nat → Prop) (s : DSt) : Prop where mk ::
  out : ∃ gl cap bm n f, DevX w g S s gl cap bm n f
theorem MapI.typed {P : Program} {k : TypeId} {w : World} {b n t : Nat} {f : Int → Option Value} (h : MapI P k w b n f) : ¬ Typed w t b := by
  obtain ⟨D, ⟨es, clock, hb, _⟩, _⟩ := h.out
  intro ht
  obtain ⟨cs, fr, h⟩ := ht.out
  rw [hb] at h
  cases h
theorem flatten_len {pg : List (List Int)} {m : Nat} (h : ∀ p ∈ pg, p.length = m) : pg.flatten.length = m * pg.length := by
  induction pg with
  | nil => rfl
  | cons p pg ih =>
    rw [List.flatten_cons, List.length_append, ih fun q hq => h q (List.mem_cons_of_mem _ hq), h p (List.mem_cons_self ..), List.length_cons, Nat.mul_succ]
    omega
section
variable {w w' : World} {g : Nat} {S F : Nat → Prop} {s : DSt} {gl cap bm n : Nat} {f : Int → Option Value}
/-- What doesn't touch its blocks leaves it. -/
theorem DevX.upx (h : DevX w g S s gl cap bm n f) (hu : UpX F w w') (hF : ∀ b, S b → ¬ F b) : DevX w' g S s gl cap bm n f :=
  ⟨h.b.upx hu (hF _ h.sg), h.laid.upx hu (fun b hb => by simp only [Value.ownBlock, Option.some.injEq] at hb; subst hb; exact hF _ h.sgl), h.map.upx hu (hF _ h.sbm), h.nle,
   ⟨fun p => (h.wts.at_ p).imp id fun ⟨v, h1, h2, h3⟩ => ⟨v, h1, h2, h3.upx hu (fun b hb => hF b (by obtain ⟨_, _, _, h4⟩ := h3.out; exact h4 b hb)) fun b hb _ _ => hF b hb⟩, h.wts.sep⟩,
   h.sg, h.sgl, h.sbm, h.ne1, h.ne2, h.ne3, fun b hb => Nat.lt_of_lt_of_le (h.lt b hb) hu.size, h.ok⟩
theorem DevI.upx (h : DevI w g S s) (hu : UpX F w w') (hF : ∀ b, S b → ¬ F b) : DevI w' g S s := by
  obtain ⟨gl, cap, bm, n, f, h⟩ := h.out
  exact ⟨gl, cap, bm, n, f, h.upx hu hF⟩
theorem DevI.up (h : DevI w g S s) (hu : Up w w') : DevI w' g S s := h.upx (hu.x fun _ => False) fun _ _ f => f
theorem DevX.up (h : DevX w g S s gl cap bm n f) (hu : Up w w') : DevX w' g S s gl cap bm n f := h.upx (hu.x fun _ => False) fun _ _ f => f
theorem DevI.lt (h : DevI w g S s) : ∀ b, S b → b < w.heap.size := by
  obtain ⟨gl, cap, bm, n, f, h⟩ := h.out
  exact h.lt
theorem DevI.ok (h : DevI w g S s) : DOk s := by
  obtain ⟨gl, cap, bm, n, f, h⟩ := h.out
  exact h.ok
theorem DevI.sg (h : DevI w g S s) : S g := by
  obtain ⟨gl, cap, bm, n, f, h⟩ := h.out
  exact h.sg
/-- The versions' blocks are none of the three. -/
theorem DevX.spine (h : DevX w g S s gl cap bm n f) {p : Int} {v : Value} (hf : f p = some v) : ∀ b, v.ownBlock = some b → b ≠ g ∧ b ≠ gl ∧ b ≠ bm := by
  intro b hb
  rcases h.wts.at_ p with ⟨h1, _⟩ | ⟨v', h1, _, h2⟩
  · rw [hf] at h1; cases h1
  · rw [hf] at h1
    obtain rfl := Option.some.inj h1
    have ht := h2.typed b hb
    refine ⟨fun e => ?_, fun e => ?_, fun e => ?_⟩
    · subst e
      have := ht.ne ⟨_, _, h.b.out⟩
      cases this
    · subst e
      have := ht.ne (h.laid.typed b rfl)
      cases this
    · subst e
      exact h.map.typed ht
theorem DevX.content (h : DevX w g S s gl cap bm n f) {b : Nat} (ht : Typed w 5 b) : b ≠ g ∧ b ≠ bm ∧ ∀ p v, f p = some v → ¬ v.ownBlock = some b := by
  refine ⟨fun e => ?_, fun e => ?_, fun p v hf hb => ?_⟩
  · subst e
    have := ht.ne ⟨_, _, h.b.out⟩
    cases this
  · subst e
    exact h.map.typed ht
  · rcases h.wts.at_ p with ⟨h1, _⟩ | ⟨v', h1, _, h2⟩
    · rw [hf] at h1; cases h1
    · rw [hf] at h1
      obtain rfl := Option.some.inj h1
      have := ht.ne (h2.typed b hb)
      cases this
/-- Its struct's cells alone are changed. -/
theorem DevX.cells (h : DevX w g S s gl cap bm n f) {s' : DSt} (hu : UpX (fun b => b = g) w w') (hb : Blk w' g 102 (devCells s' gl cap bm)) (hp : s'.pg = s.pg) (hw : s'.wt = s.wt) (hwr : s.wr ≤ s'.wr) (hl : InK .i64 s'.left) : DevX w' g S s' gl cap bm n f := by
  have ho := h.ok
  refine ⟨hb, ?_, h.map.upx hu (fun e => h.ne2 e.symm), Nat.le_trans h.nle hwr, ?_, h.sg, h.sgl, h.sbm, h.ne1, h.ne2, h.ne3, fun b hb => Nat.lt_of_lt_of_le (h.lt b hb) hu.size, ⟨?_, ?_, ?_, ?_, ?_, hl, ?_⟩⟩
  · rw [hp]
    exact h.laid.upx hu (fun b hb e => by simp only [Value.ownBlock, Option.some.injEq] at hb; exact h.ne1 (e.symm.trans hb.symm))
  · rw [hw]
    refine ⟨fun p => (h.wts.at_ p).imp id fun ⟨v, h1, h2, h3⟩ => ⟨v, h1, h2, h3.upx hu (fun b hb e => (h.spine h1 b hb).1 e) fun b hb _ ht e => (h.content ht).1 e⟩, h.wts.sep⟩
  · rw [hp]; exact ho.len
  · rw [hp]; exact ho.one
  · rw [hp]; exact ho.most
  · rw [hw]; exact ho.wlen
  · rw [hw, hp]; exact ho.win
  · rw [hw]; exact fun p => Nat.le_trans (ho.wmax p) hwr
end
end Go.Proofs.Ytehdigkjbobndaa
