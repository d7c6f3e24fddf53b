/- A block known whole: made, copied into, a slice of one's own. Over any program. -/
import Derived.Test.YtehdigkjbobndaaArr
import Derived.Test.YtehdigkjbobndaaMake
import Derived.Laws.CopyOwn
namespace Go.Proofs.Ytehdigkjbobndaa
open Go.RowKit

theorem Own.of_cells {w : World} {g e base n : Nat} {k : IntKind} {xs : List Int} (h : Blk w g e (cellsOf k xs)) (hb : base ≤ g) (hn : n = xs.length) (hm : xs.length ≤ 281474976710656) (hwf : ∀ x ∈ xs, InK k x) : Own w base e k (.slice (some ⟨g, 0, none⟩) n n) xs := by
  subst hn
  exact ⟨⟨by simp, .inr ⟨g, xs.length, _, rfl, hb, h.out, Nat.le_refl _, by simp [maxLen]; omega, by simp [cellsOf], by simp [cellsOf]; exact List.take_of_length_le (by simp)⟩⟩, hwf⟩
theorem Rd.of_cells {w : World} {g e n : Nat} {k : IntKind} {xs : List Int} (h : Blk w g e (cellsOf k xs)) (hn : n = xs.length) (hm : xs.length ≤ 9223372036854775807) (hwf : ∀ x ∈ xs, InK k x) : Rd w k (some ⟨g, 0, none⟩) n xs :=
  Rd.block xs h.out rfl hn hm hwf

/-- make([]T, n): a block known whole. -/
theorem wpl_makeK {P : Program} {w : World} {ops : Array Oper} {rest : List Oper} {a : Act} {Q : Exit → Act → World → Prop} {dst : Option Tmp} {ty : TypeId} {pos : String} {after : Array Edge}
    {x y : Operand} {t : TypeId} (e : Nat) (k : IntKind) (bytes : Nat) (ht : P.underlying t = some (.slice e)) (hi : (P.info? e).map (fun i => (i.zero, i.size, i.bytes)) = some (some (.int k 0), 1, bytes))
    (n : Nat) (hx : a.eval x = .int .i64 (n : Int)) (hy : a.eval y = .int .i64 (n : Int)) (hb : bytes * n ≤ 281474976710656) (hm : n ≤ 281474976710656)
    (h : ∀ w', Blk w' w.heap.size e (cellsOf k (List.replicate n 0)) → Up w w' → w'.heap.size = w.heap.size + 1 → wpList P ops Q rest (a.put dst (.slice (some ⟨w.heap.size, 0, none⟩) n n)) w') :
    wpList P ops Q ({ dst := dst, op := .makeSlice t x y, type := ty, pos := pos, after := after, guard := none } :: rest) a w := by
  refine wpList_plain rfl fun K hK => ?_
  have hr := run_make_row' (P := P) t e (.int k 0) bytes ht hi rfl .i64 .i64 n hb (by omega) w
  unfold Oper.wp
  simp only [execOp]
  rw [hx, hy]
  simp only [Sem.run_bind, hr, Result.andThen]
  refine hK _ _ (h _ ?_ ((Up.refl w).alloc _) (by simp))
  rw [made_cells k n]
  exact Blk.new w e _

/-- A list laid over another one from a place on. -/
def laid (xs : List Int) (off : Nat) (ys : List Int) : List Int := xs.take off ++ (ys ++ xs.drop (off + ys.length))
theorem laid_len {xs ys : List Int} {off : Nat} (h : off + ys.length ≤ xs.length) : (laid xs off ys).length = xs.length := by simp [laid]; omega
theorem laid_wf {xs ys : List Int} {off : Nat} {p : Int → Prop} (hx : ∀ x ∈ xs, p x) (hy : ∀ y ∈ ys, p y) : ∀ z ∈ laid xs off ys, p z := by
  intro z hz
  simp only [laid, List.mem_append] at hz
  rcases hz with hz | hz | hz
  · exact hx z (List.mem_of_mem_take hz)
  · exact hy z hz
  · exact hx z (List.mem_of_mem_drop hz)
theorem splice_cells (k : IntKind) (xs ys : List Int) (off : Nat) : (splice (xs.map (Value.int k)) off (ys.map (Value.int k))).toArray = cellsOf k (laid xs off ys) := by
  simp [splice, cellsOf, laid]

/-- copy(d, s) into a block known whole. -/
theorem wpl_copy {P : Program} {w : World} {ops : Array Oper} {rest : List Oper} {a : Act} {Q : Exit → Act → World → Prop} {dst : Option Tmp} {ty : TypeId} {pos : String} {after : Array Edge}
    {d s : Operand} {dT sT : TypeId} (e : Nat) (k : IntKind) (hu : P.underlying dT = some (.slice e)) (hsz : (P.info? e).map (·.size) = some 1)
    (w0 : World) (g off dn dc : Nat) (xs : List Int) (hd : a.eval d = .slice (some ⟨g, off, none⟩) dn dc) (hg : Blk w g e (cellsOf k xs)) (hU : Up w0 w) (hb : w0.heap.size ≤ g)
    (A : Option Addr) (n c : Nat) (ys : List Int) (hs : a.eval s = .slice A n c) (hn : n = ys.length) (hr : Rd w k A c ys) (hl : ys.length ≤ dn) (hf : off + ys.length ≤ xs.length)
    (h : ∀ w', Blk w' g e (cellsOf k (laid xs off ys)) → Up w0 w' → Below g w w' → wpList P ops Q rest (a.put dst (goInt ys.length)) w') :
    wpList P ops Q ({ dst := dst, op := .call { callee := .builtin .copy, args := #[d, s], argTypes := #[dT, sT] }, type := ty, pos := pos, after := after, guard := none } :: rest) a w := by
  subst hn
  refine wpList_copy_splice rfl d s dT sT rfl e hu hsz _ A dn dc _ c hd hs g off (xs.map (Value.int k)) e (by exact hg.out) (ys.map (Value.int k)) (by simp [Nat.min_eq_left hl]) ?_ (by simpa using hf) (by simp [Value.oneCell']) g w (Below.refl _ _) (Nat.le_refl _) ?_
  · intro h0
    refine ⟨rfl, ?_⟩
    cases A with
    | none => have := hr.non rfl; have := hr.le; simp at h0; omega
    | some ad =>
      refine ⟨ad, rfl, fun j v hj => ?_⟩
      obtain ⟨hj1, rfl⟩ := List.getElem?_eq_some_iff.1 hj
      rw [List.length_map] at hj1
      have := hr.cell ad rfl j hj1
      simpa [List.getD_eq_getElem?_getD, hj1] using this
  · intro w' hw hbl
    rw [List.length_map]
    exact h w' ⟨by rw [hw.out, splice_cells]⟩ ⟨hU.out.trans (hbl.mono hb)⟩ hbl
end Go.Proofs.Ytehdigkjbobndaa
