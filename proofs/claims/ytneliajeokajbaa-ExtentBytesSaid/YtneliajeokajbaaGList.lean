/- Lists of numbers read are the bytes of the list: plain. -/
import Derived.Test.YtneliajeokajbaaVarGetL
import Derived.Test.YtneliajeokajbaaVarM
namespace Go.Proofs.Ytneliajeokajbaa.GL
open Go.RowKit Go.Proofs.Ytneliajeokajbaa
set_option maxRecDepth 100000

theorem vget_back (g : Nat) : ∀ (l : List Int), (∀ x ∈ l, InK .u8 x) → ∀ (i n m j : Nat), vget g l i n = (m, j, 0) → ∃ q, i + (vput q).length = j ∧ m = n + q * 2 ^ (7 * i) ∧ l = vput q ++ l.drop (j - i) ∧ (0 < i → 0 < q)
  | [], _, i, n, m, j, h => by simp [vget] at h
  | c :: t, hw, i, n, m, j, h => by
    have hc := (hw c (by simp)).u8
    by_cases hb : 9 < i ∨ g < n + c.toNat % 128 * 2 ^ (7 * i) ∨ (c = 0 ∧ 0 < i)
    · rw [vget_bad _ _ _ _ _ hb] at h
      simp at h
    · by_cases h2 : c < 128
      · rw [vget_last _ _ _ _ _ hb h2] at h
        simp only [Prod.mk.injEq, and_true] at h
        obtain ⟨rfl, rfl⟩ := h
        have e : c.toNat % 128 = c.toNat := Nat.mod_eq_of_lt (by omega)
        refine ⟨c.toNat, by rw [vput_low _ (by omega)]; rfl, by rw [e], ?_, fun hi => ?_⟩
        · rw [vput_low _ (by omega), show i + 1 - i = 1 by omega]
          simp
          omega
        · have : ¬ c = 0 := fun e => hb (.inr (.inr ⟨e, hi⟩))
          omega
      · rw [vget_next _ _ _ _ _ hb h2] at h
        obtain ⟨q, h3, h4, h5, h6⟩ := vget_back g t (fun x hx => hw x (by simp [hx])) (i + 1) _ m j h
        have hq := h6 (by omega)
        refine ⟨c.toNat % 128 + 128 * q, ?_, ?_, ?_, fun _ => by omega⟩
        · rw [vput_high _ (by omega), show (c.toNat % 128 + 128 * q) / 128 = q by omega, List.length_cons]
          omega
        · rw [h4, show 7 * (i + 1) = 7 * i + 7 by omega, Nat.pow_add, Nat.add_mul, Nat.add_assoc]
          congr 2
          rw [Nat.mul_comm 128 q, Nat.mul_assoc, Nat.mul_comm (2 ^ (7 * i))]
        · rw [vput_high _ (by omega), show (c.toNat % 128 + 128 * q) / 128 = q by omega, show j - i = (j - (i + 1)) + 1 by have := vput_pos q; omega, List.drop_succ_cons]
          conv => lhs; rw [h5]
          rw [List.cons_append]
          congr 1
          omega
theorem vget_back0 {g : Nat} {l : List Int} (hw : ∀ x ∈ l, InK .u8 x) {m j : Nat} (h : vget g l 0 0 = (m, j, 0)) : l = vput m ++ l.drop j ∧ (vput m).length = j := by
  obtain ⟨q, h1, h2, h3, _⟩ := vget_back g l hw 0 0 m j h
  simp at h1 h2 h3
  subst h2
  exact ⟨h3, h1⟩
theorem gl_back (b : List Int) (hw : ∀ x ∈ b, InK .u8 x) : ∀ (n : Nat) (acc : List Int) (p : Nat) (r : List Int) (q : Nat), gl b n acc p = (r, q, 0) →
    ∃ ns : List Int, r = acc ++ ns ∧ ns.length = n ∧ (∀ x ∈ ns, 0 ≤ x ∧ x ≤ 9223372036854775807) ∧ b.drop p = (ns.map (fun x => vput x.toNat)).flatten ++ b.drop q
  | 0, acc, p, r, q, h => by
    simp only [gl, Prod.mk.injEq, and_true] at h
    obtain ⟨rfl, rfl⟩ := h
    exact ⟨[], by simp, rfl, by simp, by simp⟩
  | n + 1, acc, p, r, q, h => by
    cases hv : vget 9223372036854775807 (b.drop p) 0 0 with
    | mk m jf =>
      obtain ⟨j, f⟩ := jf
      by_cases hf : f = 0
      · subst hf
        rw [gl_ok b n acc p m j hv] at h
        obtain ⟨ns, h1, h2, h3, h4⟩ := gl_back b hw n _ _ r q h
        obtain ⟨h5, h6⟩ := vget_back0 (fun x hx => hw x (List.mem_of_mem_drop hx)) hv
        have h7 := vget_le 9223372036854775807 (b.drop p) 0 0
        rw [hv] at h7
        simp only at h7
        refine ⟨(m : Int) :: ns, by rw [h1]; simp, by simp [h2], ?_, ?_⟩
        · intro x hx
          rcases List.mem_cons.1 hx with rfl | hx
          · omega
          · exact h3 x hx
        · rw [List.drop_drop] at h5
          rw [h5, h4]
          simp
      · rw [gl_bad b n acc p m j f hv hf] at h
        simp only [Prod.mk.injEq] at h
        exact absurd h.2.2 hf
/-- A list as bytes. -/
def vlist (l : List Int) : List Int := vput l.length ++ vputs l
theorem glist_back {b l r : List Int} (hw : ∀ x ∈ b, InK .u8 x) (h : glist b = (l, r, 0)) : b = vlist l ++ r ∧ (∀ x ∈ l, 0 ≤ x ∧ x ≤ 9223372036854775807) ∧ l.length ≤ 65536 := by
  cases hv : vget 9223372036854775807 b 0 0 with
  | mk m jf =>
    obtain ⟨j, f⟩ := jf
    rw [glist_of hv] at h
    split at h
    · rename_i hf; simp at h; exact absurd h.2.2 hf
    · rename_i hf
      have hf : f = 0 := by omega
      subst hf
      split at h
      · simp at h
      · split at h
        · rename_i hg; simp at h; exact absurd h.2.2 hg
        · rename_i hm hg
          cases hgl : gl b m [] j with
          | mk r1 q1 =>
            obtain ⟨q, f1⟩ := q1
            rw [hgl] at h hg
            simp only [Decidable.not_not] at hg
            simp only at h hg
            subst hg
            simp only [Prod.mk.injEq, and_true] at h
            obtain ⟨rfl, rfl⟩ := h
            obtain ⟨ns, h1, h2, h3, h4⟩ := gl_back b hw m [] j r1 q hgl
            rw [List.nil_append] at h1
            subst h1
            obtain ⟨h5, h6⟩ := vget_back0 hw hv
            refine ⟨?_, h3, by omega⟩
            unfold vlist
            rw [vputs_some r1 (fun x hx => (h3 x hx).1), h2, List.append_assoc, ← h4]
            exact h5
theorem gl_puts' (W b : List Int) (l : List Int) (hl : ∀ x ∈ l, 0 ≤ x ∧ x ≤ 9223372036854775807) : ∀ acc p, W.drop p = (l.map (fun x => vput x.toNat)).flatten ++ b → gl W l.length acc p = (acc ++ l, p + ((l.map (fun x => vput x.toNat)).flatten).length, 0) := by
  induction l with
  | nil => intro acc p h; simp [gl]
  | cons x t ih =>
    intro acc p h
    have hx := hl x (by simp)
    obtain ⟨y, rfl⟩ := Int.eq_ofNat_of_zero_le hx.1
    rw [List.map_cons, List.flatten_cons, Int.toNat_natCast, List.append_assoc] at h
    have hv := vget_vput 9223372036854775807 ((t.map (fun x => vput x.toNat)).flatten ++ b) (by omega) y (by omega)
    rw [← h] at hv
    rw [List.length_cons, gl_ok W t.length acc p y _ hv, ih (fun z hz => hl z (by simp [hz])) _ _ (by rw [← List.drop_drop, h, List.drop_left])]
    simp
    omega

theorem glist_puts' (l b : List Int) (hl : ∀ x ∈ l, 0 ≤ x ∧ x ≤ 9223372036854775807) (hn : l.length ≤ 65536) : glist (vput l.length ++ vputs l ++ b) = (l, b, 0) := by
  have hv := vget_vput 9223372036854775807 (vputs l ++ b) (by omega) l.length (by omega)
  rw [← List.append_assoc] at hv
  have hs := vputs_some l fun x hx => (hl x hx).1
  have hg := gl_puts' (vput l.length ++ vputs l ++ b) b l hl [] (vput l.length).length (by rw [List.append_assoc, List.drop_left, hs])
  rw [glist_of hv, hg]
  simp only [ne_eq, not_true_eq_false, if_false]
  rw [if_neg (by omega), List.nil_append, ← hs, ← List.length_append, List.drop_left]

theorem glist_vlist (l b : List Int) (hl : ∀ x ∈ l, 0 ≤ x ∧ x ≤ 9223372036854775807) (hn : l.length ≤ 65536) : glist (vlist l ++ b) = (l, b, 0) := glist_puts' l b hl hn
end Go.Proofs.Ytneliajeokajbaa.GL
