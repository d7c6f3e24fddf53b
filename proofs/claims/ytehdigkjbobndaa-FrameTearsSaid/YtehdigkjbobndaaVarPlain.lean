/- Numbers' bytes and back: plain. -/
import Derived.Test.YtehdigkjbobndaaBase
import Derived.Laws.BitsAllLaws
namespace Go.Proofs.Ytehdigkjbobndaa
open Go.RowKit
set_option maxRecDepth 100000

def vput (n : Nat) : List Int := if n < 128 then [(n : Int)] else ((n % 128 + 128 : Nat) : Int) :: vput (n / 128)
termination_by n
decreasing_by omega

theorem vput_low (n : Nat) (h : n < 128) : vput n = [(n : Int)] := by rw [vput, if_pos h]
theorem vput_high (n : Nat) (h : 128 ≤ n) : vput n = ((n % 128 + 128 : Nat) : Int) :: vput (n / 128) := by rw [vput, if_neg (by omega)]
theorem vput_wf (n : Nat) : ∀ x ∈ vput n, InK .u8 x := by
  induction n using Nat.strongRecOn with
  | _ n ih =>
    intro x hx
    by_cases h : n < 128
    · rw [vput_low n h] at hx
      simp only [List.mem_cons, List.not_mem_nil, or_false] at hx
      exact InK.of_u8 (by omega) (by omega)
    · rw [vput_high n (by omega)] at hx
      rcases List.mem_cons.1 hx with rfl | hx
      · exact InK.of_u8 (by omega) (by omega)
      · exact ih (n / 128) (by omega) x hx
theorem vput_len (k n : Nat) (h : n < 128 ^ k) (hk : 1 ≤ k) : (vput n).length ≤ k := by
  induction k generalizing n with
  | zero => omega
  | succ k ih =>
    by_cases h1 : n < 128
    · rw [vput_low n h1]; simp
    · rw [vput_high n (by omega)]
      have h2 : n / 128 < 128 ^ k := by
        rw [Nat.pow_succ] at h
        exact Nat.div_lt_of_lt_mul (by rwa [Nat.mul_comm] at h)
      have hk1 : 1 ≤ k := by
        rcases Nat.eq_zero_or_pos k with rfl | h3
        · simp at h2; omega
        · exact h3
      have := ih (n / 128) h2 hk1
      simp only [List.length_cons]; omega
theorem vput_len10 (n : Nat) (h : n < 18446744073709551616) : (vput n).length ≤ 10 := vput_len 10 n (by omega) (by omega)
theorem vput_pos (n : Nat) : 1 ≤ (vput n).length := by
  by_cases h : n < 128
  · rw [vput_low n h]; simp
  · rw [vput_high n (by omega)]; simp
def vputs (l : List Int) : List Int := if ∀ x ∈ l, 0 ≤ x then (l.map (fun x => vput x.toNat)).flatten else []
theorem vputs_some (l : List Int) (h : ∀ x ∈ l, 0 ≤ x) : vputs l = (l.map (fun x => vput x.toNat)).flatten := by unfold vputs; rw [if_pos h]
theorem vputs_none (l : List Int) (x : Int) (hx : x ∈ l) (h : x < 0) : vputs l = [] := by
  unfold vputs
  rw [if_neg fun h2 => by have := h2 x hx; omega]
theorem vflat_len (l : List Int) (h : ∀ x ∈ l, InK .i64 x) : ((l.map (fun x => vput x.toNat)).flatten).length ≤ 10 * l.length := by
  induction l with
  | nil => simp
  | cons x l ih =>
    have h1 := (h x (by simp)).i64
    have h2 := vput_len10 x.toNat (by omega)
    have h3 := ih fun y hy => h y (by simp [hy])
    simp only [List.map_cons, List.flatten_cons, List.length_append, List.length_cons]; omega
/-- A signed number as one that is not. -/
def zig (n : Int) : Nat := if 0 ≤ n then 2 * n.toNat else 2 * (-(n + 1)).toNat + 1
theorem zig_lt (x : Int) (h : InK .i64 x) : zig x < 18446744073709551616 := by
  have := h.i64
  unfold zig
  split <;> omega
theorem zig_pos (m : Nat) (h : (m : Int) ≤ 9223372036854775807) : bits .xor .u64 ((m : Int) * 2) ((m : Int) / 9223372036854775808) = (zig m : Int) := by
  have e1 : (m : Int) / 9223372036854775808 = ((0 : Nat) : Int) := by omega
  have e2 : (m : Int) * 2 = ((2 * m : Nat) : Int) := by omega
  rw [e1, e2, u64_xor_nat _ _ (by omega) (by omega), Nat.xor_zero]
  unfold zig
  rw [if_pos (by omega)]
  simp
theorem xor_ones64 (n : Nat) (h : n < 2 ^ 64) : n ^^^ 18446744073709551615 = 18446744073709551615 - n := by
  have e : (BitVec.ofNat 64 n ^^^ BitVec.allOnes 64) = ~~~ BitVec.ofNat 64 n := by
    rw [BitVec.xor_allOnes]
  have e2 := congrArg BitVec.toNat e
  simp only [BitVec.toNat_xor, BitVec.toNat_ofNat, BitVec.toNat_allOnes, BitVec.toNat_not] at e2
  rw [Nat.mod_eq_of_lt h] at e2
  exact e2
theorem zig_neg (x : Int) (h : InK .i64 x) (h0 : x < 0) : bits .xor .u64 (IntKind.u64.wrap (IntKind.u64.wrap x * 2)) (IntKind.u64.wrap (x / 9223372036854775808)) = (zig x : Int) := by
  have h1 := h.i64
  have wr : ∀ y : Int, IntKind.u64.wrap y = y % 18446744073709551616 := fun y => by simp [IntKind.wrap, IntKind.bits, IntKind.signed]
  obtain ⟨m, hm⟩ := Int.eq_ofNat_of_zero_le (show 0 ≤ -(x + 1) by omega)
  rw [wr, wr, wr, show x / 9223372036854775808 = -1 by omega, show (-1 : Int) % 18446744073709551616 = ((18446744073709551615 : Nat) : Int) by omega,
    show x % 18446744073709551616 * 2 % 18446744073709551616 = ((18446744073709551614 - 2 * m : Nat) : Int) by omega, u64_xor_nat _ _ (by omega) (by omega), xor_ones64 _ (by omega)]
  unfold zig
  rw [if_neg (by omega)]
  omega
theorem or128 : ∀ x : Fin 256, (x.val ||| 128) = x.val % 128 + 128 := by decide
theorem or128_u8 (m : Nat) : bits .or .u8 ((m : Int) % 256) 128 = ((m % 128 + 128 : Nat) : Int) := by
  have h := u8_or_nat (m % 256) 128 (by omega) (by omega)
  have e := or128 ⟨m % 256, by omega⟩
  simp only at e
  rw [e] at h
  rw [show ((m : Int) % 256) = ((m % 256 : Nat) : Int) by omega]
  refine h.trans ?_
  omega
theorem clear128_u8 (x : Int) (h : InK .u8 x) : bits .andNot .u8 x 128 = x % 128 := by
  obtain ⟨h0, h1⟩ := h.u8
  obtain ⟨m, rfl⟩ := Int.eq_ofNat_of_zero_le h0
  have h := u8_andNot_nat m 128 (by omega) (by omega)
  have e : m &&& (255 - 128) = m % 128 := Nat.and_two_pow_sub_one_eq_mod m 7
  rw [e] at h
  refine h.trans (by omega)
def vget (g : Nat) : List Int → Nat → Nat → Nat × Nat × Nat
  | [], i, _ => (0, i, 4)
  | c :: t, i, n => if 9 < i ∨ g < n + c.toNat % 128 * 2 ^ (7 * i) ∨ (c = 0 ∧ 0 < i) then (0, i, 3) else if c < 128 then (n + c.toNat % 128 * 2 ^ (7 * i), i + 1, 0) else vget g t (i + 1) (n + c.toNat % 128 * 2 ^ (7 * i))
theorem vget_drop (l : List Int) (k : Nat) (h : k < l.length) {x : Int} (hx : l.getD k 0 = x) : l.drop k = x :: l.drop (k + 1) := by
  rw [List.drop_eq_getElem_cons h, ← hx, List.getD_eq_getElem?_getD, List.getElem?_eq_getElem h]
  rfl
theorem vget_bad (g : Nat) (t : List Int) (c : Int) (i n : Nat) (h : 9 < i ∨ g < n + c.toNat % 128 * 2 ^ (7 * i) ∨ (c = 0 ∧ 0 < i)) : vget g (c :: t) i n = (0, i, 3) := by rw [vget, if_pos h]
theorem vget_last (g : Nat) (t : List Int) (c : Int) (i n : Nat) (h : ¬ (9 < i ∨ g < n + c.toNat % 128 * 2 ^ (7 * i) ∨ (c = 0 ∧ 0 < i))) (h2 : c < 128) : vget g (c :: t) i n = (n + c.toNat % 128 * 2 ^ (7 * i), i + 1, 0) := by rw [vget, if_neg h, if_pos h2]
theorem vget_next (g : Nat) (t : List Int) (c : Int) (i n : Nat) (h : ¬ (9 < i ∨ g < n + c.toNat % 128 * 2 ^ (7 * i) ∨ (c = 0 ∧ 0 < i))) (h2 : ¬ c < 128) : vget g (c :: t) i n = vget g t (i + 1) (n + c.toNat % 128 * 2 ^ (7 * i)) := by rw [vget, if_neg h, if_neg h2]

theorem or_shift (m p T : Nat) (i : Nat) (hT : T = 2 ^ i) (hm : m < T) (hmm : m < 18446744073709551616) (hp : p * T < 18446744073709551616) : bits .or .u64 (m : Int) (IntKind.u64.wrap ((p : Int) * (T : Int))) = ((m + p * T : Nat) : Int) := by
  have hm2 : T ≤ p * T ∨ p = 0 := by
    rcases Nat.eq_zero_or_pos p with h | h
    · exact Or.inr h
    · exact Or.inl (Nat.le_mul_of_pos_left _ h)
  rw [show ((p : Int) * (T : Int)) = ((p * T : Nat) : Int) by push_cast; rfl]
  generalize hq : p * T = q at *
  rw [show IntKind.u64.wrap (q : Int) = (q : Int) by rw [show IntKind.u64.wrap (q : Int) = (q : Int) % 18446744073709551616 by simp [IntKind.wrap, IntKind.bits, IntKind.signed]]; omega]
  by_cases hp0 : p = 0
  · subst hp0
    simp only [Nat.zero_mul] at hq
    subst hq
    rw [u64_or_nat _ _ hmm (by omega)]; simp
  · rw [u64_or_nat _ _ (by omega) (by omega), Nat.or_comm]
    have := Nat.two_pow_add_eq_or_of_lt (i := i) (b := m) (by rw [← hT]; exact hm) p
    rw [← hT] at this
    rw [Nat.mul_comm] at hq
    rw [hq] at this
    omega
end Go.Proofs.Ytehdigkjbobndaa
