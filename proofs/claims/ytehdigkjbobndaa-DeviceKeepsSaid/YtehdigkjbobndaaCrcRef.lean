/- The document's check sum: the walk of incipitref01.Sum, Same and Low. -/
import Derived.Test.YtehdigkjbobndaaProg
import Derived.Test.YtehdigkjbobndaaBase
import Derived.Test.YtehdigkjbobndaaCrcPlain
namespace Go.Proofs.Ytehdigkjbobndaa
open Go.RowKit
set_option maxRecDepth 100000

theorem u32_xor_cast (a b : Nat) (ha : a < 2 ^ 32) (hb : b < 2 ^ 32) : bits .xor .u32 (a : Int) (b : Int) = ((a ^^^ b : Nat) : Int) := u32_xor_nat a b ha hb

theorem refSum_bit (x b : Nat) (hx : x < 2 ^ 32) (j : Nat) (R : Nat) (hj : j < 8) (h : x ^^^ (b / 2 ^ j) = CrcPlain.steps j R) (ht : ((x : Int) % 2 != (b : Int) / 2 ^ j % 2) = true) :
    ∃ y : Nat, bits .xor .u32 ((x : Int) / 2) 2197175160 = (y : Int) ∧ y < 2 ^ 32 ∧ y ^^^ (b / 2 ^ (j + 1)) = CrcPlain.steps (j + 1) R := by
  have e : ((x : Int) / 2) = ((x / 2 : Nat) : Int) := by omega
  refine ⟨(x / 2) ^^^ CrcPlain.poly, ?_, Nat.xor_lt_two_pow (by omega) CrcPlain.poly_lt, ?_⟩
  · rw [e]; exact u32_xor_cast _ _ (by omega) CrcPlain.poly_lt
  · rw [CrcPlain.steps_succ, ← h, ← CrcPlain.bit_round x b j hj, if_pos]
    rw [CrcPlain.xor_mod2]
    have h2 : ((b / 2 ^ j : Nat) : Int) = (b : Int) / 2 ^ j := by simp
    rw [← h2] at ht
    simp only [bne_iff_ne, ne_eq] at ht
    omega
theorem refSum_bit0 (x b : Nat) (hx : x < 2 ^ 32) (j : Nat) (R : Nat) (hj : j < 8) (h : x ^^^ (b / 2 ^ j) = CrcPlain.steps j R) (ht : ((x : Int) % 2 != (b : Int) / 2 ^ j % 2) = false) :
    ∃ y : Nat, ((x : Int) / 2) = (y : Int) ∧ y < 2 ^ 32 ∧ y ^^^ (b / 2 ^ (j + 1)) = CrcPlain.steps (j + 1) R := by
  refine ⟨x / 2, by omega, by omega, ?_⟩
  rw [CrcPlain.steps_succ, ← h, ← CrcPlain.bit_round x b j hj, if_neg]
  rw [CrcPlain.xor_mod2]
  have h2 : ((b / 2 ^ j : Nat) : Int) = (b : Int) / 2 ^ j := by simp
  rw [← h2] at ht
  simp only [bne_eq_false_iff_eq] at ht
  omega

set_option maxHeartbeats 400000 in
theorem refSum_calls (A : Option Addr) (c : Nat) (l : List Int) (w : World) (hrd : Rd w .u8 A c l) :
    Calls Try.prog 68 #[.slice A l.length c] w fun e w' => e = .returned (.int .u32 (CrcPlain.crc l)) ∧ w = w' := by
  have hlen := hrd.len
  have H8 := Lib.hid hrd.u8
  go_enter Try.func68, Try.ntmps68
  go_wp2
  go_loop [3,4,5,6,7] (fun r i _ _ _ => ∃ k : Nat, k ≤ l.length ∧ i = .int .i64 k ∧ r = .int .u32 (CrcPlain.fold CrcPlain.ones (l.take k))) (fun _ i _ _ _ => l.length - (intOf i).toNat)
  case atStart => exact ⟨0, by omega, rfl, rfl⟩
  case round =>
    obtain ⟨k, hk, rfl, rfl⟩ := hrel
    by_cases hlt : k < l.length
    · obtain ⟨ad, rfl, hcell⟩ := hrd.at_ k hlt
      obtain ⟨hb0, hb1⟩ := (hrd.range k hlt).u8
      obtain ⟨b, hb⟩ := Int.eq_ofNat_of_zero_le hb0
      rw [hb] at hcell hb1
      have hR : CrcPlain.fold CrcPlain.ones (l.take k) < 4294967296 := CrcPlain.fold_lt _ CrcPlain.ones_lt fun x hx => H8.out x (List.mem_of_mem_take hx)
      have HB := Lib.hid hb
      clear hb hb0
      generalize hF : CrcPlain.fold CrcPlain.ones (l.take k) = R at *
      have HF := Lib.hid hF
      clear hF
      go_wp2
      go_loop [3,5,6,7] (fun r i _ _ => ∃ j x : Nat, j ≤ 8 ∧ x < 4294967296 ∧ i = .int .i64 j ∧ r = .int .u32 x ∧ Hid (x ^^^ (b / 2 ^ j) = CrcPlain.steps j (R ^^^ b))) (fun _ i _ _ => 8 - (intOf i).toNat)
      case atStart => exact ⟨0, R, by omega, hR, rfl, rfl, by simp [Hid, CrcPlain.steps]⟩
      case round =>
        obtain ⟨j, x, hj, hx, rfl, rfl, HX⟩ := hrel
        by_cases hj8 : j < 8
        · go_wp2
          · obtain ⟨y, e1, e2, e3⟩ := refSum_bit x b hx j _ hj8 HX.out (by assumption)
            go_round
            case rel => exact ⟨j + 1, y, by omega, e2, by go_num, by rw [e1], e3⟩
            case measure => simp [intOf]; omega
          · obtain ⟨y, e1, e2, e3⟩ := refSum_bit0 x b hx j _ hj8 HX.out (by assumption)
            go_round
            case rel => exact ⟨j + 1, y, by omega, e2, by go_num, by rw [e1], e3⟩
            case measure => simp [intOf]; omega
        · obtain rfl : j = 8 := by omega
          go_wp2
          go_round
          case rel =>
            refine ⟨k + 1, by omega, by go_num, ?_⟩
            have e := HX.out
            rw [show b / 2 ^ 8 = 0 by omega, Nat.xor_zero] at e
            rw [List.take_succ_eq_append_getElem hlt, CrcPlain.fold_snoc, HF.out, e]
            have hb := HB.out
            rw [List.getD_eq_getElem?_getD, List.getElem?_eq_getElem hlt] at hb
            simp only [Option.getD_some] at hb
            rw [hb]
            rfl
          case measure => simp [intOf]; omega
    · obtain rfl : k = l.length := by omega
      rw [List.take_length]
      have hR : CrcPlain.fold CrcPlain.ones l < 4294967296 := CrcPlain.fold_lt _ CrcPlain.ones_lt H8.out
      have hfin : bits .xor .u32 ((CrcPlain.fold CrcPlain.ones l : Nat) : Int) 4294967295 = ((CrcPlain.crc l : Nat) : Int) := u32_xor_cast _ _ hR CrcPlain.ones_lt
      go_wp2
      go_ret
      exact ⟨rfl, rfl⟩

theorem eq_of_getD {l m : List Int} (h : l.length = m.length) (hk : ∀ i, i < l.length → l.getD i 0 = m.getD i 0) : l = m := by
  refine List.ext_getElem h fun i h1 h2 => ?_
  have := hk i h1
  simpa [List.getD_eq_getElem?_getD, List.getElem?_eq_getElem h1, List.getElem?_eq_getElem h2] using this

set_option maxHeartbeats 400000 in
theorem refSame_calls (A B : Option Addr) (c d : Nat) (l m : List Int) (w : World) (h1 : Rd w .u8 A c l) (h2 : Rd w .u8 B d m) :
    Calls Try.prog 15 #[.slice A l.length c, .slice B m.length d] w fun e w' => e = .returned (.bool (decide (l = m))) ∧ Qt w w' := by
  have hl1 := h1.len
  have hl2 := h2.len
  by_cases hlen : l.length = m.length
  · have Hlen := Lib.hid hlen
    have b1 : ((l.length : Int) != (m.length : Int)) = false := by simp [hlen]
    have b2 : (l.length != m.length) = false := by simp [hlen]
    clear hlen
    go_enter Try.func15, Try.ntmps15
    go_wp2
    go_loopw [5] (fun i wr => ∃ k : Nat, k ≤ l.length ∧ i = .int .i64 k ∧ Hid (∀ j, j < k → l.getD j 0 = m.getD j 0) ∧ Qt w wr) (fun i _ => l.length - (intOf i).toNat)
    case atStart => exact ⟨0, by omega, rfl, (fun j hj => absurd hj (by omega)), Qt.refl _⟩
    case round =>
      obtain ⟨k, hk, rfl, HE, hq⟩ := hrel
      obtain ⟨n, rfl⟩ := hq.out
      by_cases hlt : k < l.length
      · have hltm : k < m.length := by rw [← Hlen.out]; exact hlt
        obtain ⟨a1, x, rfl, c1, HX, _⟩ := h1.get k hlt
        obtain ⟨a2, y, rfl, c2, HY, _⟩ := h2.get k hltm
        by_cases he : x = y
        · subst he
          go_wp2
          go_quiet (fail)
          go_wp2
          go_roundw
          case rel => exact ⟨k + 1, by omega, by go_num, (fun j hj => by rcases Nat.lt_succ_iff_lt_or_eq.1 hj with h | rfl; exact HE.out j h; exact HX.out.trans HY.out.symm), (by first | exact ⟨⟨_, rfl⟩⟩ | exact Qt.drewN hq _ | exact hq)⟩
          case measure => simp [intOf]; omega
        · have hb : (x != y) = true := by simpa using he
          have Hne := Lib.hid (show l ≠ m from fun e => he (by rw [← HX.out, ← HY.out, e]))
          clear he
          go_wp2
          go_quiet (fail)
          go_wp2
          go_ret
          exact ⟨by simp [Hne.out], (by first | exact ⟨⟨_, rfl⟩⟩ | exact Qt.drewN hq _ | exact hq)⟩
      · obtain rfl : k = l.length := by omega
        have e : l = m := eq_of_getD Hlen.out HE.out
        go_wp2
        go_ret
        exact ⟨by simp [e], (by first | exact ⟨⟨_, rfl⟩⟩ | exact Qt.drewN hq _ | exact hq)⟩
  · have b1 : ((l.length : Int) != (m.length : Int)) = true := by simp; omega
    have hne : l ≠ m := fun e => hlen (by rw [e])
    have Hne := Lib.hid hne
    clear hlen hne
    go_enter Try.func15, Try.ntmps15
    go_wp2
    go_ret
    exact ⟨by simp [Hne.out], Qt.refl _⟩

theorem refSum_n {A : Option Addr} {c n : Nat} {l : List Int} {w : World} (h1 : Rd w .u8 A c l) (hn : n = l.length) :
    Calls Try.prog 68 #[.slice A n c] w fun e w' => e = .returned (.int .u32 (CrcPlain.crc l)) ∧ w = w' := by
  subst hn
  exact refSum_calls A c l w h1
theorem refSame_n {A B : Option Addr} {c d n m : Nat} {l k : List Int} {w : World} (h1 : Rd w .u8 A c l) (h2 : Rd w .u8 B d k) (hn : n = l.length) (hm : m = k.length) :
    Calls Try.prog 15 #[.slice A n c, .slice B m d] w fun e w' => e = .returned (.bool (decide (l = k))) ∧ Qt w w' := by
  subst hn hm
  exact refSame_calls A B c d l k w h1 h2

/-- A number's four bytes. -/
def low4 (n : Nat) : List Int := [(n : Int) % 256, (n : Int) / 256 % 256, (n : Int) / 65536 % 256, (n : Int) / 16777216 % 256]
theorem low4_wf (n : Nat) : ∀ x ∈ low4 n, InK .u8 x := by
  intro x hx
  refine InK.of_u8 ?_ ?_ <;> (simp only [low4, List.mem_cons, List.not_mem_nil, or_false] at hx; rcases hx with rfl | rfl | rfl | rfl <;> omega)

set_option maxHeartbeats 400000 in
theorem refLow_calls (n : Nat) (w : World) (hn : n < 4294967296) :
    Calls Try.prog 67 #[.int .u32 n] w (RetOwn w 5 .u8 (low4 n)) := by
  go_enter Try.func67, Try.ntmps67
  go_wp2
  go_ret
  refine RetOwn.of (Own.lit w _ _ _ _ (Nat.le_refl _) (by simp [low4]) (low4_wf n) _ rfl _ ?_) ((Up.refl _).alloc _)
  simp [low4]
  omega
end Go.Proofs.Ytehdigkjbobndaa
