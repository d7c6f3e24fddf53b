/- The document's check sum: the walk of incipitref01.Sum, Same and Low. -/
import Derived.Test.YtneliajeokajbaaProg
import Derived.Test.YtneliajeokajbaaBase
import Derived.Test.YtneliajeokajbaaCrcPlain
namespace Go.Proofs.Ytneliajeokajbaa
open Go.RowKit
set_option maxRecDepth 100000

theorem u32_xor_cast (a b : Nat) (ha : a < 2 ^ 32) (hb : b < 2 ^ 32) : bits .xor .u32 (a : Int) (b : Int) = ((a ^^^ b : Nat) : Int) := u32_xor_nat a b ha hb

theorem refSum_bit (x b : Nat) (hx : x < 2 ^ 32) (j : Nat) (R : Nat) (hj : j < 8) (h : x ^^^ (b / 2 ^ j) = CrcPlain.steps j R) (ht : ((x : Int) % 2 != (b : Int) / 2 ^ j % 2) = true) :
    ∃ y : Nat, bits .xor .u32 ((x : Int) / 2) 2197175160 = (y : Int) ∧ y < 2 ^ 32 ∧ y ^^^ (b / 2 ^ (j + 1)) = CrcPlain.steps (j + 1) R := by
  have e : ((x : Int) / 2) = ((x / 2 : Nat) : Int) := by omega
  refine ⟨(x / 2) ^^^ CrcPlain.poly, ?_, Nat.xor_lt_two_pow (by omega) CrcPlain.poly_lt, ?_⟩
  · rw [e]; exact u32_xor_cast _ _ (by omega) CrcPlain.poly_lt
  · rw [CrcPlain.steps_succ, ← h, ← CrcPlain.bit_round x b j hj, if_pos]
    rw [CrcPlain.xor_mod2]
    have h2 : ((b / 2 ^ j : Nat) : Int) = (b : Int) / 2 ^ j := by simp
    rw [← h2] at ht
    simp only [bne_iff_ne, ne_eq] at ht
    omega
theorem refSum_bit0 (x b : Nat) (hx : x < 2 ^ 32) (j : Nat) (R : Nat) (hj : j < 8) (h : x ^^^ (b / 2 ^ j) = CrcPlain.steps j R) (ht : ((x : Int) % 2 != (b : Int) / 2 ^ j % 2) = false) :
    ∃ y : Nat, ((x : Int) / 2) = (y : Int) ∧ y < 2 ^ 32 ∧ y ^^^ (b / 2 ^ (j + 1)) = CrcPlain.steps (j + 1) R := by
  refine ⟨x / 2, by omega, by omega, ?_⟩
  rw [CrcPlain.steps_succ, ← h, ← CrcPlain.bit_round x b j hj, if_neg]
  rw [CrcPlain.xor_mod2]
  have h2 : ((b / 2 ^ j : Nat) : Int) = (b : Int) / 2 ^ j := by simp
  rw [← h2] at ht
  simp only [bne_eq_false_iff_eq] at ht
  omega

theorem eq_of_getD {l m : List Int} (h : l.length = m.length) (hk : ∀ i, i < l.length → l.getD i 0 = m.getD i 0) : l = m := by
  refine List.ext_getElem h fun i h1 h2 => ?_
  have := hk i h1
  simpa [List.getD_eq_getElem?_getD, List.getElem?_eq_getElem h1, List.getElem?_eq_getElem h2] using this

set_option maxHeartbeats 400000 in
theorem refSame_calls (A B : Option Addr) (c d : Nat) (l m : List Int) (w : World) (h1 : Rd w .u8 A c l) (h2 : Rd w .u8 B d m) :
    Calls Try.prog 64 #[.slice A l.length c, .slice B m.length d] w fun e w' => e = .returned (.bool (decide (l = m))) ∧ Qt w w' := by
  have hl1 := h1.len
  have hl2 := h2.len
  by_cases hlen : l.length = m.length
  · have Hlen := Lib.hid hlen
    have b1 : ((l.length : Int) != (m.length : Int)) = false := by simp [hlen]
    have b2 : (l.length != m.length) = false := by simp [hlen]
    clear hlen
    go_enter Try.func64, Try.ntmps64
    go_wp2
    go_loopw [5] (fun i wr => ∃ k : Nat, k ≤ l.length ∧ i = .int .i64 k ∧ Hid (∀ j, j < k → l.getD j 0 = m.getD j 0) ∧ Qt w wr) (fun i _ => l.length - (intOf i).toNat)
    case atStart => exact ⟨0, by omega, rfl, (fun j hj => absurd hj (by omega)), Qt.refl _⟩
    case round =>
      obtain ⟨k, hk, rfl, HE, hq⟩ := hrel
      obtain ⟨n, rfl⟩ := hq.out
      by_cases hlt : k < l.length
      · have hltm : k < m.length := by rw [← Hlen.out]; exact hlt
        obtain ⟨a1, x, rfl, c1, HX, _⟩ := h1.get k hlt
        obtain ⟨a2, y, rfl, c2, HY, _⟩ := h2.get k hltm
        by_cases he : x = y
        · subst he
          go_wp2
          go_quiet (fail)
          go_wp2
          go_roundw
          case rel => exact ⟨k + 1, by omega, by go_num, (fun j hj => by rcases Nat.lt_succ_iff_lt_or_eq.1 hj with h | rfl; exact HE.out j h; exact HX.out.trans HY.out.symm), (by first | exact ⟨⟨_, rfl⟩⟩ | exact Qt.drewN hq _ | exact hq)⟩
          case measure => simp [intOf]; omega
        · have hb : (x != y) = true := by simpa using he
          have Hne := Lib.hid (show l ≠ m from fun e => he (by rw [← HX.out, ← HY.out, e]))
          clear he
          go_wp2
          go_quiet (fail)
          go_wp2
          go_ret
          exact ⟨by simp [Hne.out], (by first | exact ⟨⟨_, rfl⟩⟩ | exact Qt.drewN hq _ | exact hq)⟩
      · obtain rfl : k = l.length := by omega
        have e : l = m := eq_of_getD Hlen.out HE.out
        go_wp2
        go_ret
        exact ⟨by simp [e], (by first | exact ⟨⟨_, rfl⟩⟩ | exact Qt.drewN hq _ | exact hq)⟩
  · have b1 : ((l.length : Int) != (m.length : Int)) = true := by simp; omega
    have hne : l ≠ m := fun e => hlen (by rw [e])
    have Hne := Lib.hid hne
    clear hlen hne
    go_enter Try.func64, Try.ntmps64
    go_wp2
    go_ret
    exact ⟨by simp [Hne.out], Qt.refl _⟩

theorem refSame_n {A B : Option Addr} {c d n m : Nat} {l k : List Int} {w : World} (h1 : Rd w .u8 A c l) (h2 : Rd w .u8 B d k) (hn : n = l.length) (hm : m = k.length) :
    Calls Try.prog 64 #[.slice A n c, .slice B m d] w fun e w' => e = .returned (.bool (decide (l = k))) ∧ Qt w w' := by
  subst hn hm
  exact refSame_calls A B c d l k w h1 h2

/-- A number's four bytes. -/
def low4 (n : Nat) : List Int := [(n : Int) % 256, (n : Int) / 256 % 256, (n : Int) / 65536 % 256, (n : Int) / 16777216 % 256]
theorem low4_wf (n : Nat) : ∀ x ∈ low4 n, InK .u8 x := by
  intro x hx
  refine InK.of_u8 ?_ ?_ <;> (simp only [low4, List.mem_cons, List.not_mem_nil, or_false] at hx; rcases hx with rfl | rfl | rfl | rfl <;> omega)

end Go.Proofs.Ytneliajeokajbaa
