/- Slicing in a region that draws its order, walked as a tree. Over any program. -/
import Derived.Test.YtehdigkjbobndaaPiT
namespace Go.Proofs.Ytehdigkjbobndaa
open Go.RowKit

theorem tree_slice_lo {P : Program} {ops : Array Oper} {C : World → Prop} {Q : Act → World → Prop} {dst : Option Tmp} {ty : TypeId} {pos : String} {after : Array Edge} {guard : Option (Nat × Bool)}
    {t : TypeId} {x lo : Operand} {r : Tree Oper} {a : Act} {w : World} (e bytes : Nat) (z : Value) (A : Option Addr) (n c : Nat) (kl : IntKind) (l : Int) (ht : P.underlying t = some (.slice e)) (hinf : (P.info? e).map (fun i => (i.zero, i.size, i.bytes)) = some (some z, 1, bytes))
    (hg : Region.wanted { dst := dst, op := .slice t x (some lo) none none, type := ty, pos := pos, after := after, guard := guard } (yielded ops a.tmps) = true) (hx : a.eval x = .slice A n c) (hl : a.eval lo = .int kl l) (h0 : 0 ≤ l) (h1 : l ≤ (n : Int))
    (h : wpTree P ops C Q r (a.put dst (sliced A l.toNat n c 1)) w) :
    wpTree P ops C Q (.quiet { dst := dst, op := .slice t x (some lo) none none, type := ty, pos := pos, after := after, guard := guard } r) a w := by
  refine ⟨_, .inl ⟨hg, fun w' _ => ?_⟩, h⟩
  obtain ⟨i, hi, _, hs, _⟩ := info_parts hinf
  have he : P.elem t = e := by simp [Program.elem, ht]
  have hrun := run_slice_l (P := P) w' t A n c (by rw [he]; exact ht) kl l h0 h1
  have hsz : (sizeOf (P.elem t)).run P w' = .ok 1 w' := by rw [he]; simp [sizeOf, typeInfo, hi, hs]
  have hat := run_sliceAt_slice (P := P) w' t (.slice A n c) (some (.int kl l)) none none (by rw [he]; exact ht)
  simp only [execOp, hx, hl, Option.map_some, Option.map_none]
  simp [hat, hrun, hsz, Result.andThen]
theorem tree_slice_lh {P : Program} {ops : Array Oper} {C : World → Prop} {Q : Act → World → Prop} {dst : Option Tmp} {ty : TypeId} {pos : String} {after : Array Edge} {guard : Option (Nat × Bool)}
    {t : TypeId} {x lo hi : Operand} {r : Tree Oper} {a : Act} {w : World} (e bytes : Nat) (z : Value) (A : Option Addr) (n c : Nat) (kl kh : IntKind) (l m : Int) (ht : P.underlying t = some (.slice e)) (hinf : (P.info? e).map (fun i => (i.zero, i.size, i.bytes)) = some (some z, 1, bytes))
    (hg : Region.wanted { dst := dst, op := .slice t x (some lo) (some hi) none, type := ty, pos := pos, after := after, guard := guard } (yielded ops a.tmps) = true) (hx : a.eval x = .slice A n c) (hl : a.eval lo = .int kl l) (hh : a.eval hi = .int kh m) (h0 : 0 ≤ l) (h1 : l ≤ m) (h2 : m ≤ (c : Int))
    (h : wpTree P ops C Q r (a.put dst (sliced A l.toNat m.toNat c 1)) w) :
    wpTree P ops C Q (.quiet { dst := dst, op := .slice t x (some lo) (some hi) none, type := ty, pos := pos, after := after, guard := guard } r) a w := by
  refine ⟨_, .inl ⟨hg, fun w' _ => ?_⟩, h⟩
  obtain ⟨i, hi, _, hs, _⟩ := info_parts hinf
  have he : P.elem t = e := by simp [Program.elem, ht]
  have hrun := run_slice_lh (P := P) w' t A n c (by rw [he]; exact ht) kl kh l m h0 h1 h2
  have hsz : (sizeOf (P.elem t)).run P w' = .ok 1 w' := by rw [he]; simp [sizeOf, typeInfo, hi, hs]
  have hat := run_sliceAt_slice (P := P) w' t (.slice A n c) (some (.int kl l)) (some (.int kh m)) none (by rw [he]; exact ht)
  simp only [execOp, hx, hl, hh, Option.map_some, Option.map_none]
  simp [hat, hrun, hsz, Result.andThen]
theorem tree_slice_lhm {P : Program} {ops : Array Oper} {C : World → Prop} {Q : Act → World → Prop} {dst : Option Tmp} {ty : TypeId} {pos : String} {after : Array Edge} {guard : Option (Nat × Bool)}
    {t : TypeId} {x lo hi mx : Operand} {r : Tree Oper} {a : Act} {w : World} (e bytes : Nat) (z : Value) (A : Option Addr) (n c : Nat) (kl kh km : IntKind) (l m : Int) (ht : P.underlying t = some (.slice e)) (hinf : (P.info? e).map (fun i => (i.zero, i.size, i.bytes)) = some (some z, 1, bytes))
    (hg : Region.wanted { dst := dst, op := .slice t x (some lo) (some hi) (some mx), type := ty, pos := pos, after := after, guard := guard } (yielded ops a.tmps) = true) (hx : a.eval x = .slice A n c) (hl : a.eval lo = .int kl l) (hh : a.eval hi = .int kh m) (hm : a.eval mx = .int km m) (h0 : 0 ≤ l) (h1 : l ≤ m) (h2 : m ≤ (c : Int))
    (h : wpTree P ops C Q r (a.put dst (sliced A l.toNat m.toNat m.toNat 1)) w) :
    wpTree P ops C Q (.quiet { dst := dst, op := .slice t x (some lo) (some hi) (some mx), type := ty, pos := pos, after := after, guard := guard } r) a w := by
  refine ⟨_, .inl ⟨hg, fun w' _ => ?_⟩, h⟩
  obtain ⟨i, hi, _, hs, _⟩ := info_parts hinf
  have he : P.elem t = e := by simp [Program.elem, ht]
  have hrun := run_slice_lhm (P := P) w' t A n c (by rw [he]; exact ht) kl kh km l m m h0 h1 (Int.le_refl _) h2
  have hsz : (sizeOf (P.elem t)).run P w' = .ok 1 w' := by rw [he]; simp [sizeOf, typeInfo, hi, hs]
  have hat := run_sliceAt_slice (P := P) w' t (.slice A n c) (some (.int kl l)) (some (.int kh m)) (some (.int km m)) (by rw [he]; exact ht)
  simp only [execOp, hx, hl, hh, hm, Option.map_some]
  simp [hat, hrun, hsz, Result.andThen]
theorem tree_slice_hi {P : Program} {ops : Array Oper} {C : World → Prop} {Q : Act → World → Prop} {dst : Option Tmp} {ty : TypeId} {pos : String} {after : Array Edge} {guard : Option (Nat × Bool)}
    {t : TypeId} {x hi : Operand} {r : Tree Oper} {a : Act} {w : World} (e bytes : Nat) (z : Value) (A : Option Addr) (n c : Nat) (kh : IntKind) (m : Int) (ht : P.underlying t = some (.slice e)) (hinf : (P.info? e).map (fun i => (i.zero, i.size, i.bytes)) = some (some z, 1, bytes))
    (hg : Region.wanted { dst := dst, op := .slice t x none (some hi) none, type := ty, pos := pos, after := after, guard := guard } (yielded ops a.tmps) = true) (hx : a.eval x = .slice A n c) (hh : a.eval hi = .int kh m) (h1 : 0 ≤ m) (h2 : m ≤ (c : Int))
    (h : wpTree P ops C Q r (a.put dst (sliced A 0 m.toNat c 1)) w) :
    wpTree P ops C Q (.quiet { dst := dst, op := .slice t x none (some hi) none, type := ty, pos := pos, after := after, guard := guard } r) a w := by
  refine ⟨_, .inl ⟨hg, fun w' _ => ?_⟩, h⟩
  obtain ⟨i, hi, _, hs, _⟩ := info_parts hinf
  have he : P.elem t = e := by simp [Program.elem, ht]
  have hrun := run_slice_h (P := P) w' t A n c (by rw [he]; exact ht) kh m h1 h2
  have hsz : (sizeOf (P.elem t)).run P w' = .ok 1 w' := by rw [he]; simp [sizeOf, typeInfo, hi, hs]
  have hat := run_sliceAt_slice (P := P) w' t (.slice A n c) none (some (.int kh m)) none (by rw [he]; exact ht)
  simp only [execOp, hx, hh, Option.map_some, Option.map_none]
  simp [hat, hrun, hsz, Result.andThen]
/-- What a slice of a slice reads. -/
theorem Rd.sliced {w : World} {k : IntKind} {A : Option Addr} {c : Nat} {xs : List Int} (h : Rd w k A c xs) (l r m : Nat) (h1 : l ≤ r) (h2 : r ≤ xs.length) (h3 : r ≤ m) (h4 : m ≤ c) :
    ∃ A', sliced A l r m 1 = .slice A' (r - l) (m - l) ∧ Rd w k A' (m - l) ((xs.take r).drop l) := by
  unfold Go.sliced
  exact ⟨_, by first | rfl | simp, by have := h.cut l r m h1 h2 h3 h4; simpa using this⟩
end Go.Proofs.Ytehdigkjbobndaa
