/- Several texts in one: PkAll, PkSame. -/
import Derived.Test.YtneliajeokajbaaPkDoc
import Derived.Deep.QuietTactic
import Derived.BigQuiet
/- Layer 12: Len, Width, All of an array. -/
namespace Go.Proofs.Ytneliajeokajbaa
open Go.RowKit
set_option maxRecDepth 100000

theorem packedLen_calls (g base width n : Nat) (ws : List Int) (w : World) (ha : PArr w g base width n ws) : Calls Try.prog 49 #[.pointer (some ⟨g, 0, none⟩)] w fun e w' => e = .returned (.int .i64 n) ∧ w = w' := by
  obtain ⟨A, c, hb, _⟩ := ha
  have g1 : w.cell? ⟨g, 1, none⟩ = some (.int .i64 n) := hb.cell 1
  go_enter Try.func49, Try.ntmps49
  go_wp2_with fail
  go_ret
  exact ⟨rfl, rfl⟩
theorem packedWidthM_calls (g base width n : Nat) (ws : List Int) (w : World) (ha : PArr w g base width n ws) : Calls Try.prog 50 #[.pointer (some ⟨g, 0, none⟩)] w fun e w' => e = .returned (.int .i64 width) ∧ w = w' := by
  obtain ⟨A, c, hb, _⟩ := ha
  have g0 : w.cell? ⟨g, 0, none⟩ = some (.int .i64 width) := hb.cell 0
  go_enter Try.func50, Try.ntmps50
  go_wp2_with fail
  go_ret
  exact ⟨rfl, rfl⟩
/-- What get answers is the number. -/
theorem PkOk.get {width n : Nat} {ws l : List Int} (h : PkOk width n ws l) (h1 : 1 ≤ width) {i r : Nat} (hi : i < n) (hr : r < 2 ^ width) (hb : ∀ k, k < width → r.testBit k = wbit ws (width * i + k)) : (r : Int) = l.getD i 0 := by
  have hx := h.fit (l.getD i 0) (by rw [List.getD_eq_getElem?_getD, List.getElem?_eq_getElem (show i < l.length by rw [h.len]; exact hi)]; exact List.getElem_mem _)
  obtain ⟨x, hX⟩ := Int.eq_ofNat_of_zero_le hx.1
  rw [hX] at hx ⊢
  have hx2 : x < 2 ^ width := by exact_mod_cast hx.2
  congr 1
  refine Nat.eq_of_testBit_eq fun k => ?_
  by_cases hk : k < width
  · rw [hb k hk, h.bits, if_pos (Nat.lt_of_lt_of_le (show width * i + k < width * (i + 1) by rw [Nat.mul_add]; omega) (Nat.mul_le_mul_left _ hi))]
    rw [show (width * i + k) / width = i by rw [Nat.mul_add_div (by omega), Nat.div_eq_of_lt hk]; rfl, show (width * i + k) % width = k by rw [Nat.mul_add_mod, Nat.mod_eq_of_lt hk], hX]
    rfl
  · rw [bit_lt_pow hr k (by omega), bit_lt_pow hx2 k (by omega)]
set_option maxHeartbeats 1000000 in
theorem packedAll_calls (g base width n : Nat) (ws l : List Int) (w : World) (ha : PArr w g base width n ws) (hk : PkOk width n ws l) (h1 : 1 ≤ width) (h2 : width ≤ 31) (hn : n ≤ 65536) :
    Calls Try.prog 51 #[.pointer (some ⟨g, 0, none⟩)] w (RetOwn w 3 .i64 l) := by
  have hw : 64 * ws.length + 0 ≥ width * n := by have := hk.size; omega
  go_enter Try.func51, Try.ntmps51
  go_wp2_with fail
  refine (packedLen_calls g base width n ws w ha).mono ?_
  rintro e w' ⟨rfl, rfl⟩
  go_wp2_with fail
  go_loopw [3, 4, 7] (fun o _ i wr => ∃ k : Nat, k ≤ n ∧ i = .int .i64 k ∧ Own wr w.heap.size 3 .i64 o (l.take k) ∧ Up w wr) (fun _ _ i _ => n - (intOf i).toNat)
  case atStart => exact ⟨0, by omega, rfl, by simpa using Own.nil _ _ _ _, Up.refl _⟩
  case round =>
    obtain ⟨k, hkn, rfl, ho, hu⟩ := hrel
    by_cases hlt : k < n
    · obtain ⟨A', c', rfl, hrd'⟩ := ho.rd
      have HT := Lib.hid (take_succ_getD l k 0 (by rw [hk.len]; exact hlt))
      have HL := Lib.hid (show (l.take k).length ≤ 65536 by rw [List.length_take, hk.len]; omega)
      generalize hD : l.take k = D at *
      have har : PArr wr g base width n ws := by
        obtain ⟨A, c, hb, hoA⟩ := ha
        exact ⟨A, c, hb.up hu, hoA.up hu⟩
      have hpos : width * k + width ≤ width * n := by rw [← Nat.mul_succ]; exact Nat.mul_le_mul_left _ hlt
      have HPOS := Lib.hid (show width * k + width ≤ 64 * ws.length by omega)
      clear hpos hw
      go_wp2_with fail
      refine (packedGet_calls g base width n k ws wr har h1 h2 (by omega) HPOS.out).mono ?_
      rintro e w1 ⟨r, rfl, hr, hbits, hq⟩
      have HG := Lib.hid (hk.get h1 hlt hr hbits)
      clear hbits
      have ho1 := ho.up hq.up
      have hu1 := hu.trans hq.up
      have hi : InK .i64 (r : Int) := InK.of_i64 (by omega) (by have : 2 ^ width ≤ 2 ^ 31 := Nat.pow_le_pow_right (by decide) h2; omega)
      clear hr
      have hlo := ho1.lt
      go_wp2_with (refine wpl_push_int (t := 23) w.heap.size 3 .i64 8 Try.underlying23 infoInt _ D r rfl hi (fun _ => rfl) (fun _ => rfl) ho1 (by have := HL.out; omega) (by decide) (by have := hu1.size; omega) ?_; intro v7 w7 hv7 hu7)
      go_roundw
      case rel =>
        refine ⟨k + 1, by omega, by simp, ?_, hu1.thenx hu7 fun i hi e => by have := (hlo i e).1; omega⟩
        rw [HT.out, ← HG.out]
        exact hv7
      case measure => simp [intOf]; omega
    · have hke : k = n := by omega
      subst hke
      go_wp2_with fail
      go_ret
      rw [List.take_of_length_le (by rw [hk.len]; omega)] at ho
      exact ⟨_, rfl, ho, hu⟩
end Go.Proofs.Ytneliajeokajbaa

/- Layer 12: slices.Equal of words; Same. -/
namespace Go.Proofs.Ytneliajeokajbaa
open Go.RowKit
set_option maxRecDepth 100000

set_option maxHeartbeats 1000000 in
theorem equalU64_calls (A B : Option Addr) (c d : Nat) (l m : List Int) (w : World) (h1 : Rd w .u64 A c l) (h2 : Rd w .u64 B d m) :
    Calls Try.prog 86 #[.slice A l.length c, .slice B m.length d] w fun e w' => e = .returned (.bool (decide (l = m))) ∧ Qt w w' := by
  have hl1 := h1.len
  have hl2 := h2.len
  by_cases hlen : l.length = m.length
  · have Hlen := Lib.hid hlen
    have b1 : ((l.length : Int) != (m.length : Int)) = false := by simp [hlen]
    have b2 : (l.length != m.length) = false := by simp [hlen]
    clear hlen
    go_enter Try.func86, Try.ntmps86
    go_wp2
    go_loopw [5, 13] (fun _ i wr => ∃ k : Nat, k ≤ l.length ∧ i = .int .i64 k ∧ Hid (∀ j, j < k → l.getD j 0 = m.getD j 0) ∧ Qt w wr) (fun _ i _ => l.length - (intOf i).toNat)
    case atStart => exact ⟨0, by omega, rfl, (fun j hj => absurd hj (by omega)), Qt.refl _⟩
    case round =>
      obtain ⟨k, hk, rfl, HE, hq⟩ := hrel
      obtain ⟨n, rfl⟩ := hq.out
      by_cases hlt : k < l.length
      · have hltm : k < m.length := by rw [← Hlen.out]; exact hlt
        obtain ⟨a1, x, rfl, c1, HX, _⟩ := h1.get k hlt
        obtain ⟨a2, y, rfl, c2, HY, _⟩ := h2.get k hltm
        by_cases he : x = y
        · subst he
          go_wp2
          go_quiet (fail)
          go_wp2
          go_roundw
          case rel => exact ⟨k + 1, by omega, by go_num, (fun j hj => by rcases Nat.lt_succ_iff_lt_or_eq.1 hj with h | rfl; exact HE.out j h; exact HX.out.trans HY.out.symm), (by first | exact ⟨⟨_, rfl⟩⟩ | exact Qt.drewN hq _ | exact hq)⟩
          case measure => simp [intOf]; omega
        · have hb : (x != y) = true := by simpa using he
          have Hne := Lib.hid (show l ≠ m from fun e => he (by rw [← HX.out, ← HY.out, e]))
          clear he
          go_wp2
          go_quiet (fail)
          go_wp2
          go_ret
          exact ⟨by simp [Hne.out], (by first | exact ⟨⟨_, rfl⟩⟩ | exact Qt.drewN hq _ | exact hq)⟩
      · obtain rfl : k = l.length := by omega
        have e : l = m := eq_of_getD Hlen.out HE.out
        go_wp2
        go_ret
        exact ⟨by simp [e], (by first | exact ⟨⟨_, rfl⟩⟩ | exact Qt.drewN hq _ | exact hq)⟩
  · have b1 : ((l.length : Int) != (m.length : Int)) = true := by simp; omega
    have hne : l ≠ m := fun e => hlen (by rw [e])
    have Hne := Lib.hid hne
    clear hlen hne
    go_enter Try.func86, Try.ntmps86
    go_wp2
    go_ret
    exact ⟨by simp [Hne.out], Qt.refl _⟩

set_option maxHeartbeats 1000000 in
theorem packedSame_calls (g base width n : Nat) (ws : List Int) (g' base' width' n' : Nat) (ws' : List Int) (w : World) (ha : PArr w g base width n ws) (hb : PArr w g' base' width' n' ws') :
    Calls Try.prog 45 #[.pointer (some ⟨g, 0, none⟩), .pointer (some ⟨g', 0, none⟩)] w fun e w' => e = .returned (.bool (decide (width = width' ∧ n = n' ∧ ws = ws'))) ∧ Qt w w' := by
  obtain ⟨A, c, hb1, ho1⟩ := ha
  obtain ⟨B, d, hb2, ho2⟩ := hb
  have g0 : w.cell? ⟨g, 0, none⟩ = some (.int .i64 width) := hb1.cell 0
  have g1 : w.cell? ⟨g, 1, none⟩ = some (.int .i64 n) := hb1.cell 1
  have g2 : w.cell? ⟨g, 2, none⟩ = some (.slice A ws.length c) := hb1.cell 2
  have f0 : w.cell? ⟨g', 0, none⟩ = some (.int .i64 width') := hb2.cell 0
  have f1 : w.cell? ⟨g', 1, none⟩ = some (.int .i64 n') := hb2.cell 1
  have f2 : w.cell? ⟨g', 2, none⟩ = some (.slice B ws'.length d) := hb2.cell 2
  obtain ⟨A', c', he, hr1⟩ := ho1.rd
  simp only [Value.slice.injEq, true_and] at he
  obtain ⟨rfl, rfl⟩ := he
  obtain ⟨B', d', he, hr2⟩ := ho2.rd
  simp only [Value.slice.injEq, true_and] at he
  obtain ⟨rfl, rfl⟩ := he
  have hq0 := Qt.refl w
  by_cases e1 : width = width'
  · subst e1
    by_cases e2 : n = n'
    · subst e2
      go_enter Try.func45, Try.ntmps45
      go_wp2_with fail
      go_quiet ((go_at_call 86; exact Calls.quiet_of ((equalU64_calls A B c d ws ws' _ (hr1.up ((Up.refl w).drewN _)) (hr2.up ((Up.refl w).drewN _))).mono fun _ _ h => ⟨h.1, h.2.out⟩)))
      go_wp2_with fail
      go_ret
      exact ⟨by simp, (by first | exact ⟨⟨_, rfl⟩⟩ | exact Qt.drewN hq0 _ | exact hq0)⟩
    · have hd : ((n : Int) == (n' : Int)) = false := by simpa using (show (n : Int) ≠ n' by omega)
      have HE := Lib.hid e2
      clear e2
      go_enter Try.func45, Try.ntmps45
      go_wp2_with fail
      go_quiet (fail)
      go_wp2_with fail
      go_ret
      exact ⟨by simp [HE.out], (by first | exact ⟨⟨_, rfl⟩⟩ | exact Qt.drewN hq0 _ | exact hq0)⟩
  · have hd : ((width : Int) == (width' : Int)) = false := by simpa using (show (width : Int) ≠ width' by omega)
    have HE := Lib.hid e1
    clear e1
    go_enter Try.func45, Try.ntmps45
    go_wp2_with fail
    go_quiet (fail)
    go_wp2_with fail
    go_ret
    exact ⟨by simp [HE.out], (by first | exact ⟨⟨_, rfl⟩⟩ | exact Qt.drewN hq0 _ | exact hq0)⟩
end Go.Proofs.Ytneliajeokajbaa
