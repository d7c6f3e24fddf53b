/- A slice of one's own, of elements of several cells. Over any program. -/
import Derived.Test.YtehdigkjbobndaaBase2
import Derived.Maps.AppendAt
namespace Go.Proofs.Ytehdigkjbobndaa
open Go.RowKit

structure OwnS (w : World) (base e size : Nat) (v : Value) (n : Nat) (xs : List Value) : Prop where mk :: (row : w.ownsRow base e size v n xs)
theorem OwnS.nil (w : World) (base e size : Nat) : OwnS w base e size (.slice none 0 0) 0 [] := ⟨World.ownsRow_nil _ _ _ _⟩
theorem OwnS.upx {F : Nat → Prop} {w w' : World} {base e size n : Nat} {v : Value} {vs : List Value} (h : OwnS w base e size v n vs) (hu : UpX F w w') (hF : ∀ b, v.ownBlock = some b → ¬ F b) : OwnS w' base e size v n vs := by
  refine ⟨⟨h.row.1, ?_⟩⟩
  rcases h.row.2 with hn | ⟨g, cap, cur, rfl, hb, hg, r⟩
  · exact .inl hn
  · exact .inr ⟨g, cap, cur, rfl, hb, hu.heap hg (hF g rfl), r⟩
theorem OwnS.up {w w' : World} {base e size n : Nat} {v : Value} {vs : List Value} (h : OwnS w base e size v n vs) (hu : Up w w') : OwnS w' base e size v n vs := h.upx (hu.x fun _ => False) fun _ _ f => f
theorem OwnS.lt {w : World} {base e size n : Nat} {v : Value} {vs : List Value} (h : OwnS w base e size v n vs) : ∀ b, v.ownBlock = some b → base ≤ b ∧ b < w.heap.size := h.row.lt
/-- Where it lies, its cells, its capacity. -/
theorem OwnS.slice {w : World} {base e size n : Nat} {v : Value} {vs : List Value} (h : OwnS w base e size v n vs) :
    ∃ A c, v = .slice A n c ∧ n ≤ c ∧ n ≤ 9223372036854775807 ∧ (A = none → n = 0) ∧ ∀ ad, A = some ad → ∃ b, ad = ⟨b, 0, none⟩ ∧ base ≤ b ∧ b < w.heap.size ∧ ∀ j u, vs[j]? = some u → w.cell? ⟨b, j, none⟩ = some u := by
  rcases h.row.2 with ⟨rfl, h0⟩ | ⟨g, cap, cur, rfl, hb, hh, h1, h2, h3, h4⟩
  · exact ⟨none, 0, by rw [h0], by omega, by omega, fun _ => h0, fun _ e => by cases e⟩
  · refine ⟨_, cap, rfl, h1, by simp [maxLen] at h2; omega, (fun e => by cases e), ?_⟩
    intro ad e
    obtain rfl := Option.some.inj e
    refine ⟨g, rfl, hb, (Array.getElem?_eq_some_iff.1 hh).1, fun j u hu => ?_⟩
    rw [cell_of_row w g j _ _ (0, 0) hh]
    rw [← h4, List.getElem?_take] at hu
    split at hu
    · simpa using hu
    · cases hu

/-- append of elements that lie in cells. -/
theorem wpl_appendS {P : Program} {w : World} {ops : Array Oper} {rest : List Oper} {a : Act} {Q : Exit → Act → World → Prop} {dst : Option Tmp} {ty : TypeId} {pos : String} {after : Array Edge}
    {s x : Operand} {t : TypeId} (base e : Nat) (z : Value) (size bytes : Nat) (ht : P.underlying t = some (.slice e)) (hi : (P.info? e).map (fun i => (i.zero, i.size, i.bytes)) = some (some z, size, bytes)) (hz1 : z.cells.size = size) (hs0 : 0 < size)
    (v : Value) (n : Nat) (vs : List Value) (hs : a.eval s = v) (hown : OwnS w base e size v n vs)
    (ad : Addr) (m c : Nat) (news : List Value) (hx : a.eval x = .slice (some ad) m c) (hm : news.length = m * size) (hnews : ∀ j u, news[j]? = some u → w.cell? (ad.add j) = some u) (h1c : ∀ u ∈ news, u.oneCell' = true)
    (hb : (n + m) * bytes ≤ 140737488355328) (hbytes : 1 ≤ bytes) (hbase : base ≤ w.heap.size)
    (h : ∀ v' w', OwnS w' base e size v' (n + m) (vs ++ news) → UpX (fun b => v.ownBlock = some b) w w' → (v'.ownBlock = v.ownBlock ∨ v'.ownBlock = some w.heap.size) → wpList P ops Q rest (a.put dst v') w') :
    wpList P ops Q ({ dst := dst, op := .call { callee := .builtin .append, args := #[s, x], argTypes := #[t, t] }, type := ty, pos := pos, after := after, guard := none } :: rest) a w := by
  obtain ⟨i, hi', hz, hsz, hby⟩ : ∃ i, P.info? e = some i ∧ i.zero = some z ∧ i.size = size ∧ i.bytes = bytes := by
    obtain ⟨i, h1, h2⟩ := Option.map_eq_some_iff.1 hi
    injection h2 with h2 h3
    injection h3 with h3 h4
    exact ⟨i, h1, h2, h3, h4⟩
  have hmax : n + m ≤ maxLen := by
    have : (n + m) * 1 ≤ (n + m) * bytes := Nat.mul_le_mul_left _ hbytes
    simp only [maxLen]; omega
  refine wpList_append_own_at w rfl s x t rfl base e i z size bytes ht hi' hz hsz hby hz1 hs0 v n vs hs hown.row ad m c news hx hm hnews h1c hmax hb hbase ?_
  intro v' w' h2 h3 _ h5
  exact h v' w' ⟨h2⟩ ⟨h3.os, h3.tape, h3.output, h3.size, fun b hb hne => h3.block b hb fun e => hne e.symm⟩ h5
end Go.Proofs.Ytehdigkjbobndaa
