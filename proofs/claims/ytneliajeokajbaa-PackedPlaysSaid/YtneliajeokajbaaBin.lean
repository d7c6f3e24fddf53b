/- slices.BinarySearch on whole numbers. -/
import Derived.Test.YtneliajeokajbaaLib1
import Derived.Test.YtneliajeokajbaaVarList
namespace Go.Proofs.Ytneliajeokajbaa
open Go.RowKit
set_option maxRecDepth 100000

theorem cmpNaN_calls (x : Int) (w : World) : Calls Try.prog 112 #[.int .i64 x] w fun e w' => e = .returned (.bool false) ∧ w = w' := by
  go_enter Try.func112, Try.ntmps112
  go_wp2
  go_ret
  exact ⟨rfl, rfl⟩
theorem slNaN_calls (x : Int) (w : World) : Calls Try.prog 104 #[.int .i64 x] w fun e w' => e = .returned (.bool false) ∧ w = w' := by
  go_enter Try.func104, Try.ntmps104
  go_wp2
  go_ret
  exact ⟨rfl, rfl⟩
theorem cmpLess_calls (x y : Int) (w : World) : Calls Try.prog 103 #[.int .i64 x, .int .i64 y] w fun e w' => e = .returned (.bool (decide (x < y))) ∧ w = w' := by
  go_enter Try.func103, Try.ntmps103
  go_wp2_with fail
  refine (cmpNaN_calls x w).mono ?_
  rintro e w' ⟨rfl, rfl⟩
  go_wp2_with fail
  go_ret
  exact ⟨rfl, rfl⟩
/-- Rising, not strictly. -/
def Srt (l : List Int) : Prop := ∀ a b, a < b → b < l.length → l.getD a 0 ≤ l.getD b 0

structure BinPost (w : World) (l : List Int) (x : Int) (en : Ending) (w' : World) : Prop where mk ::
  same : w = w'
  out : ∃ i : Nat, i ≤ l.length ∧ (∀ a, a < i → l.getD a 0 < x) ∧ (∀ a, i ≤ a → a < l.length → x ≤ l.getD a 0) ∧ en = .returned (.tuple #[.int .i64 i, .bool (decide (i < l.length ∧ l.getD i 0 = x))])

set_option maxHeartbeats 2000000 in
theorem binSearch_calls (A : Option Addr) (c : Nat) (l : List Int) (x : Int) (w : World) (h1 : Rd w .i64 A c l) (hs : Srt l) (hmx : l.length ≤ 4611686018427387903) :
    Calls Try.prog 79 #[.slice A l.length c, .int .i64 x] w (BinPost w l x) := by
  have hlen := h1.len
  have HS := Lib.hid hs
  clear hs
  go_enter Try.func79, Try.ntmps79
  go_wp2_with fail
  go_loop [7, 8, 9] (fun i j _ => ∃ a b : Nat, a ≤ b ∧ b ≤ l.length ∧ i = .int .i64 a ∧ j = .int .i64 b ∧ Hid (∀ k, k < a → l.getD k 0 < x) ∧ Hid (∀ k, b ≤ k → k < l.length → x ≤ l.getD k 0)) (fun i j _ => (intOf j).toNat - (intOf i).toNat)
  case atStart => exact ⟨0, l.length, by omega, by omega, rfl, rfl, Lib.hid (fun k hk => absurd hk (by omega)), Lib.hid (fun k h1 h2 => absurd h1 (by omega))⟩
  case round =>
    obtain ⟨a, b, hab, hbl, rfl, rfl, HA, HB⟩ := hrel
    by_cases hlt : a < b
    · have hm1 : (a + b) / 2 < b := by omega
      have hm2 : a ≤ (a + b) / 2 := by omega
      obtain ⟨ad, y, rfl, hc, HY, _⟩ := h1.get ((a + b) / 2) (by omega)
      have hsum : ((a : Int) + b) / 2 = (((a + b) / 2 : Nat) : Int) := by omega
      have H1 : Hid (y < x → ∀ k, k < (a + b) / 2 + 1 → l.getD k 0 < x) := Lib.hid (by
        intro hy k hk
        have h9 := HY.out
        rcases Nat.lt_or_ge k ((a + b) / 2) with h | h
        · have := HS.out k ((a + b) / 2) h (by omega)
          omega
        · have : k = (a + b) / 2 := by omega
          rw [this, h9]; exact hy)
      have H2 : Hid (¬ y < x → ∀ k, (a + b) / 2 ≤ k → k < l.length → x ≤ l.getD k 0) := Lib.hid (by
        intro hy k hk hkl
        have h9 := HY.out
        rcases Nat.lt_or_ge ((a + b) / 2) k with h | h
        · have := HS.out ((a + b) / 2) k h hkl
          omega
        · have : k = (a + b) / 2 := by omega
          rw [this, h9]; omega)
      generalize (a + b) / 2 = m at *
      by_cases hy : y < x
      · have H3 := Lib.hid (H1.out hy)
        go_wp2_with fail
        refine (cmpLess_calls y x w).mono ?_
        rintro e w' ⟨rfl, rfl⟩
        go_wp2_with fail
        go_round
        case rel => exact ⟨m + 1, b, by omega, hbl, by simp, rfl, H3, HB⟩
        case measure => simp [intOf]; omega
      · have H3 := Lib.hid (H2.out hy)
        go_wp2_with fail
        refine (cmpLess_calls y x w).mono ?_
        rintro e w' ⟨rfl, rfl⟩
        go_wp2_with fail
        go_round
        case rel => exact ⟨a, m, by omega, by omega, rfl, rfl, HA, H3⟩
        case measure => simp [intOf]; omega
    · have hke : a = b := by omega
      subst hke
      by_cases ha : a < l.length
      · obtain ⟨ad, y, rfl, hc, HY, _⟩ := h1.get a ha
        by_cases hy : y = x
        · have hyb : (y == x) = true := by simpa using hy
          have HE := Lib.hid (show decide (a < l.length ∧ l.getD a 0 = x) = true by rw [HY.out]; simp [ha, hy])
          clear hy
          go_wp2_with fail
          go_ret2
          exact ⟨rfl, a, hbl, HA.out, HB.out, by rw [HE.out]; rfl⟩
        · have hyb : (y == x) = false := by simpa using hy
          have HE := Lib.hid (show decide (a < l.length ∧ l.getD a 0 = x) = false by rw [HY.out]; simp [hy])
          clear hy
          go_wp2_with fail
          refine (slNaN_calls y w).mono ?_
          rintro e w' ⟨rfl, rfl⟩
          go_wp2_with fail
          go_ret2
          exact ⟨rfl, a, hbl, HA.out, HB.out, by rw [HE.out]; rfl⟩
      · have HE := Lib.hid (show decide (a < l.length ∧ l.getD a 0 = x) = false by simp [ha])
        go_wp2_with fail
        go_ret2
        exact ⟨rfl, a, hbl, HA.out, HB.out, by rw [HE.out]; rfl⟩
end Go.Proofs.Ytneliajeokajbaa
