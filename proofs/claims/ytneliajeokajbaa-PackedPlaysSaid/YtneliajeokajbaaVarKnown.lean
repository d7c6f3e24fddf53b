/- The statement's own example of layer 2, and the plain law of there and back. -/
import Derived.Test.YtneliajeokajbaaVarGet
import Derived.Test.YtneliajeokajbaaVarRef
import Derived.Test.YtneliajeokajbaaCrcRef
namespace Go.Proofs.Ytneliajeokajbaa
open Go.RowKit
set_option maxRecDepth 100000

theorem vget_vput_at (gr : Nat) (t : List Int) (hg : gr < 18446744073709551616) (m : Nat) : ∀ (i k : Nat), k + m * 2 ^ (7 * i) ≤ gr → (0 < m ∨ i = 0) → vget gr (vput m ++ t) i k = (k + m * 2 ^ (7 * i), i + (vput m).length, 0) := by
  induction m using Nat.strongRecOn with
  | _ m ih =>
    intro i k hk hm
    have h9 : ¬ 9 < i := by
      intro h
      rcases hm with h1 | h1
      · have h2 : 2 ^ 70 ≤ 2 ^ (7 * i) := Nat.pow_le_pow_right (by omega) (by omega)
        have h3 : 1 * 2 ^ (7 * i) ≤ m * 2 ^ (7 * i) := Nat.mul_le_mul_right _ h1
        have h4 : (2 : Nat) ^ 70 = 1180591620717411303424 := by decide
        omega
      · omega
    by_cases h : m < 128
    · rw [vput_low m h]
      have e : (m : Int).toNat % 128 = m := by simp; omega
      rw [List.cons_append, vget_last _ _ _ _ _ (by rw [e]; omega) (by omega), e]
      rfl
    · rw [vput_high m (by omega)]
      have e : ((m % 128 + 128 : Nat) : Int).toNat % 128 = m % 128 := by rw [Int.toNat_natCast]; omega
      have hT : 2 ^ (7 * (i + 1)) = 128 * 2 ^ (7 * i) := by rw [show 7 * (i + 1) = 7 * i + 7 by omega, Nat.pow_add, Nat.mul_comm]
      have hs : k + m % 128 * 2 ^ (7 * i) + m / 128 * 2 ^ (7 * (i + 1)) = k + m * 2 ^ (7 * i) := by
        rw [hT, ← Nat.mul_assoc, Nat.add_assoc, ← Nat.add_mul]
        congr 2
        omega
      have hle : m % 128 * 2 ^ (7 * i) ≤ m * 2 ^ (7 * i) := Nat.mul_le_mul_right _ (Nat.mod_le _ _)
      rw [List.cons_append, vget_next _ _ _ _ _ (by rw [e]; omega) (by omega), e, ih (m / 128) (by omega) (i + 1) _ (by rw [hs]; exact hk) (.inl (by omega)), hs]
      simp only [List.length_cons, Prod.mk.injEq, true_and, and_true]
      omega
theorem vget_vput (gr : Nat) (t : List Int) (hg : gr < 18446744073709551616) (m : Nat) (h : m ≤ gr) : vget gr (vput m ++ t) 0 0 = (m, (vput m).length, 0) := by
  have := vget_vput_at gr t hg m 0 0 (by simpa using h) (.inr rfl)
  simpa using this
theorem unzig_zig (x : Int) : unzig (zig x) = x := by
  unfold zig unzig
  split <;> split <;> omega
theorem vputs_one (x : Int) (h : 0 ≤ x) : vputs [x] = vput x.toNat := by
  rw [vputs_some [x] (by simpa using h)]
  simp
theorem vputs_neg (x : Int) (h : x < 0) : vputs [x] = [] := vputs_none [x] x (by simp) h

theorem vput_300 : vputs [300] = [172, 2] := by
  rw [vputs_one 300 (by omega), show (300 : Int).toNat = 300 from rfl, vput_high 300 (by omega), vput_low (300 / 128) (by omega)]
  rfl
theorem vput_zig1 : vput (zig (-1)) = [1] := by
  rw [show zig (-1) = 1 from rfl, vput_low 1 (by omega)]
  rfl

theorem rd_one (w : World) (k : IntKind) (e : Nat) (x : Int) (h : InK k x) : Rd (w.alloc (.cells #[.int k x] e)) k (some ⟨w.heap.size, 0, none⟩) 1 [x] :=
  Rd.block _ (Blk.new w _ _).out (by simp) rfl (by simp) (fun y hy => by simp only [List.mem_cons, List.not_mem_nil, or_false] at hy; exact hy ▸ h)
theorem rd_two (w : World) (k : IntKind) (e : Nat) (x y : Int) (h : InK k x) (h2 : InK k y) : Rd (w.alloc (.cells #[.int k x, .int k y] e)) k (some ⟨w.heap.size, 0, none⟩) 2 [x, y] :=
  Rd.block _ (Blk.new w _ _).out (by simp) rfl (by simp) (fun z hz => by simp only [List.mem_cons, List.not_mem_nil, or_false] at hz; rcases hz with rfl | rfl; exact h; exact h2)

end Go.Proofs.Ytneliajeokajbaa
