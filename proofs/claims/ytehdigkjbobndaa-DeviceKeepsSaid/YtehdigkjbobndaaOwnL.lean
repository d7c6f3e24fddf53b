/- A slice of one's own whose elements are slices of numbers, each in blocks of their own: words over any program. -/
import Derived.Test.YtehdigkjbobndaaBase
namespace Go.Proofs.Ytehdigkjbobndaa
open Go.RowKit

/-- The block is one of cells of a type. -/
structure Typed (w : World) (q b : Nat) : Prop where mk :: (out : ∃ cs fr, w.heap[b]? = some (Obj.cells cs q fr))
theorem Typed.up {w w' : World} {q b : Nat} (h : Typed w q b) (hu : Up w w') : Typed w' q b := by
  obtain ⟨cs, fr, h⟩ := h.out
  exact ⟨cs, fr, hu.heap h⟩
theorem Typed.upx {F : Nat → Prop} {w w' : World} {q b : Nat} (h : Typed w q b) (hu : UpX F w w') (hF : ¬ F b) : Typed w' q b := by
  obtain ⟨cs, fr, h⟩ := h.out
  exact ⟨cs, fr, hu.heap h hF⟩
theorem OwnV.typed {w : World} {base e : Nat} {v : Value} {vs : List Value} (h : OwnV w base e v vs) : ∀ b, v.ownBlock = some b → Typed w e b := by
  intro k hk
  rcases h.row.2 with ⟨rfl, _⟩ | ⟨g, cap, cur, rfl, _, hh, _⟩
  · simp [Value.ownBlock] at hk
  · simp only [Value.ownBlock, Option.some.injEq] at hk
    subst hk
    exact ⟨_, _, hh⟩
theorem Own.typed {w : World} {base e : Nat} {k : IntKind} {v : Value} {xs : List Int} (h : Own w base e k v xs) : ∀ b, v.ownBlock = some b → Typed w e b := by
  intro k hk
  rcases h.row.2 with ⟨rfl, _⟩ | ⟨g, cap, cur, rfl, _, hh, _⟩
  · simp [Value.ownBlock] at hk
  · simp only [Value.ownBlock, Option.some.injEq] at hk
    subst hk
    exact ⟨_, _, hh⟩
theorem Typed.ne {w : World} {q q' b : Nat} (h : Typed w q b) (h' : Typed w q' b) : q = q' := by
  obtain ⟨cs, fr, h⟩ := h.out
  obtain ⟨cs', fr', h'⟩ := h'.out
  rw [h] at h'
  injection h' with h'
  injection h' with _ h'

/-- An own slice (cells of type e) of own slices of numbers (cells of type q), these in blocks below m. -/
structure OwnL (w : World) (base e q : Nat) (k : IntKind) (m : Nat) (v : Value) (ls : List (List Int)) : Prop where mk ::
  out : ∃ vs, OwnV w base e v vs ∧ Vals (fun b => b < m ∧ Typed w q b) w k vs ls
theorem OwnL.nil (w : World) (base e q : Nat) (k : IntKind) (m : Nat) : OwnL w base e q k m (.slice none 0 0) [] := ⟨[], OwnV.nil _ _ _, Vals.nil _ _ _⟩
theorem OwnL.upx {F : Nat → Prop} {w w' : World} {base e q : Nat} {k : IntKind} {m : Nat} {v : Value} {ls : List (List Int)} (h : OwnL w base e q k m v ls) (hu : UpX F w w')
    (hF : ∀ b, v.ownBlock = some b → ¬ F b) (hG : ∀ b, b < m → Typed w q b → ¬ F b) : OwnL w' base e q k m v ls := by
  obtain ⟨vs, h1, h2⟩ := h.out
  refine ⟨vs, h1.upx hu hF, ?_⟩
  exact (h2.upx hu fun b hb => hG b hb.1 hb.2).mono fun b hb => ⟨hb.1, hb.2.upx hu (hG b hb.1 hb.2)⟩
theorem OwnL.up {w w' : World} {base e q : Nat} {k : IntKind} {m : Nat} {v : Value} {ls : List (List Int)} (h : OwnL w base e q k m v ls) (hu : Up w w') : OwnL w' base e q k m v ls :=
  h.upx (hu.x fun _ => False) (fun _ _ f => f) fun _ _ _ f => f
theorem OwnL.mono {w : World} {base e q : Nat} {k : IntKind} {m m' : Nat} {v : Value} {ls : List (List Int)} (h : OwnL w base e q k m v ls) (hm : m ≤ m') : OwnL w base e q k m' v ls := by
  obtain ⟨vs, h1, h2⟩ := h.out
  exact ⟨vs, h1, h2.mono fun b hb => ⟨Nat.lt_of_lt_of_le hb.1 hm, hb.2⟩⟩
theorem OwnL.lt {w : World} {base e q : Nat} {k : IntKind} {m : Nat} {v : Value} {ls : List (List Int)} (h : OwnL w base e q k m v ls) : ∀ b, v.ownBlock = some b → base ≤ b ∧ b < w.heap.size := by
  obtain ⟨vs, h1, h2⟩ := h.out
  exact h1.lt
/-- A slice of numbers that is being made, from block m on, is changed. -/
theorem OwnL.part {w w' : World} {base e q : Nat} {k k' : IntKind} {m m' : Nat} {v d : Value} {ls : List (List Int)} {xs : List Int} (h : OwnL w base e q k m v ls) (hd : Own w m' q k' d xs) (hm : m ≤ m') (hne : e ≠ q)
    (hu : UpX (fun b => d.ownBlock = some b) w w') : OwnL w' base e q k m v ls := by
  obtain ⟨vs, h1, h2⟩ := h.out
  refine h.upx hu (fun b hb hd' => hne ((h1.typed b hb).ne (hd.typed b hd'))) fun b hb _ hd' => ?_
  have := (hd.lt b hd').1
  omega
theorem OwnL.rd {w : World} {base e q : Nat} {k : IntKind} {m : Nat} {v : Value} {ls : List (List Int)} (h : OwnL w base e q k m v ls) : ∃ A c, v = .slice A ls.length c ∧ RdL w k A c ls := by
  obtain ⟨vs, h1, h2⟩ := h.out
  obtain ⟨A, c, e, h3⟩ := h1.rdLF (F := fun _ => True) (h2.mono fun _ _ => trivial) fun _ _ => trivial
  exact ⟨A, c, e, h3.rd⟩
/-- One more is appended: the literal of one element, and the append. -/
theorem wpl_pushL {P : Program} {w : World} {ops : Array Oper} {rest : List Oper} {a : Act} {Q : Exit → Act → World → Prop} {d1 : Tmp} {dst : Option Tmp} {ty ty1 : TypeId} {pos pos1 : String} {after after1 : Array Edge}
    {s x : Operand} {t : TypeId} (base e q : Nat) (k : IntKind) (m : Nat) (ht : P.underlying t = some (.slice e)) (hi : (P.info? e).map (fun i => (i.zero, i.size, i.bytes)) = some (some (.slice none 0 0), 1, 24)) (hne : e ≠ q)
    (v : Value) (ls : List (List Int)) (b0 : Nat) (u : Value) (xs : List Int) (hx : a.eval x = u) (hs : ∀ y, (a.put (some d1) y).eval s = v) (hd : ∀ y, (a.put (some d1) y).eval (.tmp d1) = y)
    (hown : OwnL w base e q k m v ls) (hxo : Own w b0 q k u xs) (hm : m ≤ w.heap.size) (hb : (ls.length + 1) * 24 ≤ 140737488355328) (hbase : base ≤ w.heap.size)
    (h : ∀ v' w', OwnL w' base e q k w.heap.size v' (ls ++ [xs]) → UpX (fun b => v.ownBlock = some b) w w' → wpList P ops Q rest ((a.put (some d1) (.slice (some ⟨w.heap.size, 0, none⟩) 1 1)).put dst v') w') :
    wpList P ops Q ({ dst := some d1, op := .buildSlice t 1 #[(0, x)], type := ty1, pos := pos1, after := after1, guard := none } ::
      { dst := dst, op := .call { callee := .builtin .append, args := #[s, .tmp d1], argTypes := #[t, t] }, type := ty, pos := pos, after := after, guard := none } :: rest) a w := by
  obtain ⟨vs, h1, h2⟩ := hown.out
  obtain ⟨B, c, rfl, hr⟩ := hxo.rd
  refine wpl_push base e (.slice none 0 0) 24 ht hi rfl v vs (.slice B xs.length c) hx rfl hs hd h1 (by rw [h2.len]; exact hb) (by decide) hbase ?_
  intro v' w' hv hu
  refine h v' w' ⟨_, hv, ?_⟩ hu
  have hsep : ∀ b, Typed w q b → ¬ v.ownBlock = some b := fun b hb hv' => hne ((h1.typed b hv').ne hb)
  have h3 : Vals (fun b => b < w.heap.size ∧ Typed w' q b) w' k vs ls := (h2.upx hu fun b hb => hsep b hb.2).mono fun b hb => ⟨Nat.lt_of_lt_of_le hb.1 hm, hb.2.upx hu (hsep b hb.2)⟩
  have hty : ∀ ad', B = some ad' → (Value.slice B xs.length c).ownBlock = some ad'.block := by
    intro ad' e'
    subst e'
    rcases hxo.row.2 with ⟨h0, _⟩ | ⟨g, cap, cur, h0, _⟩
    · cases h0
    · simp only [Value.slice.injEq, Option.some.injEq] at h0
      obtain ⟨rfl, _⟩ := h0
      rfl
  refine h3.snoc (hr.upx hu fun ad' e' _ => hsep _ (hxo.typed _ (hty ad' e'))) rfl fun ad' e' h0 => ⟨hr.lt ad' e' h0, (hxo.typed _ (hty ad' e')).upx hu (hsep _ (hxo.typed _ (hty ad' e')))⟩
end Go.Proofs.Ytehdigkjbobndaa
