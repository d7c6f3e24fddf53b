/- A device's words: copying into a slice of one's own. Over any program. -/
import Derived.Test.YtehdigkjbobndaaCopy
import Derived.Test.YtehdigkjbobndaaOwnL
import Derived.Test.YtehdigkjbobndaaMapR
namespace Go.Proofs.Ytehdigkjbobndaa
open Go.RowKit

/-- copy(d, s): d is a part of a slice of one's own. -/
theorem wpl_copyO {P : Program} {w : World} {ops : Array Oper} {rest : List Oper} {a : Act} {Q : Exit → Act → World → Prop} {dst : Option Tmp} {ty : TypeId} {pos : String} {after : Array Edge}
    {d s : Operand} {dT sT : TypeId} (e : Nat) (k : IntKind) (hu : P.underlying dT = some (.slice e)) (hsz : (P.info? e).map (·.size) = some 1)
    (base : Nat) (v : Value) (xs : List Int) (hown : Own w base e k v xs) (g vn vc off dn dc : Nat) (hv : v = .slice (some ⟨g, 0, none⟩) vn vc) (hd : a.eval d = .slice (some ⟨g, off, none⟩) dn dc)
    (A : Option Addr) (n c : Nat) (ys : List Int) (hs : a.eval s = .slice A n c) (hn : n = ys.length) (hr : Rd w k A c ys) (hl : ys.length ≤ dn) (hf : off + ys.length ≤ xs.length)
    (h : ∀ w', Own w' base e k v (laid xs off ys) → UpX (fun b => b = g) w w' → w'.heap.size = w.heap.size → wpList P ops Q rest (a.put dst (goInt ys.length)) w') :
    wpList P ops Q ({ dst := dst, op := .call { callee := .builtin .copy, args := #[d, s], argTypes := #[dT, sT] }, type := ty, pos := pos, after := after, guard := none } :: rest) a w := by
  subst hn hv
  by_cases h0 : ys.length = 0
  · have hx : ys = [] := List.eq_nil_of_length_eq_zero h0
    subst hx
    refine wpList_copy_nothing rfl d s dT sT rfl e hu hsz _ _ _ _ _ _ hd hs (by simp) ?_
    refine h w ?_ (UpX.refl _ _) rfl
    rw [show laid xs off [] = xs by unfold laid; simp]
    exact hown
  · cases A with
    | none => have := hr.non rfl; omega
    | some ad =>
      rcases hown.row.2 with ⟨hbad, _⟩ | ⟨g', cap, cur, hg', hb, hh, h1, h2, h3, h4⟩
      · cases hbad
      · injection hg' with e1 e2 e3
        injection e1 with e1
        injection e1 with e1
        subst e1 e2 e3
        rw [Nat.mul_one] at h3 h4
        have h3' : cur.toList.length = vc := by simpa using h3
        refine wpList_copy_own rfl d s dT sT rfl e hu hsz g off _ _ ad _ _ hd hs cur e hh (ys.map (Value.int k)) (by simp [Nat.min_eq_left hl]) (fun j v hj => ?_) (by simp; omega) (by simp [Value.oneCell']) ?_
        · obtain ⟨hj1, rfl⟩ := List.getElem?_eq_some_iff.1 hj
          rw [List.length_map] at hj1
          have := hr.cell ad rfl j hj1
          simpa [List.getD_eq_getElem?_getD, hj1] using this
        · rw [List.length_map]
          refine h _ ⟨⟨by simp, .inr ⟨g, vc, (cur.toList.take off ++ (ys.map (Value.int k) ++ cur.toList.drop (off + ys.length))).toArray, ?_, hb, setRow_heap w g _ _ e _ hh, by rw [laid_len hf]; exact h1, h2, ?_, ?_⟩⟩, laid_wf hown.wf hr.wf⟩ ⟨rfl, rfl, rfl, by simp, fun b _ hne => setRow_other w g b _ hne⟩ (by simp)
          · rw [laid_len hf]
          · simp; omega
          · rw [Nat.mul_one, laid_len hf]
            unfold laid
            simp only [List.map_append, List.map_take, List.map_drop]
            rw [← h4, List.take_append, List.take_append]
            simp only [List.length_take, List.length_map, h3', List.take_take, List.drop_take]
            rw [show min off vc = off by omega, List.take_of_length_le (l := ys.map (Value.int k)) (by simp; omega)]
            rw [show min xs.length off = off by omega, show min off xs.length = off by omega]
            congr 2
            rw [show xs.length - off - ys.length = xs.length - (off + ys.length) by omega]
end Go.Proofs.Ytehdigkjbobndaa
