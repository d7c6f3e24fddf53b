/- Layer 12: slices.Equal of words; Same. -/
import Derived.Test.YtneliajeokajbaaPkDoc
import Derived.Deep.QuietTactic
import Derived.BigQuiet
namespace Go.Proofs.Ytneliajeokajbaa
open Go.RowKit
set_option maxRecDepth 100000

set_option maxHeartbeats 1000000 in
theorem equalU64_calls (A B : Option Addr) (c d : Nat) (l m : List Int) (w : World) (h1 : Rd w .u64 A c l) (h2 : Rd w .u64 B d m) :
    Calls Try.prog 86 #[.slice A l.length c, .slice B m.length d] w fun e w' => e = .returned (.bool (decide (l = m))) ∧ Qt w w' := by
  have hl1 := h1.len
  have hl2 := h2.len
  by_cases hlen : l.length = m.length
  · have Hlen := Lib.hid hlen
    have b1 : ((l.length : Int) != (m.length : Int)) = false := by simp [hlen]
    have b2 : (l.length != m.length) = false := by simp [hlen]
    clear hlen
    go_enter Try.func86, Try.ntmps86
    go_wp2
    go_loopw [5, 13] (fun _ i wr => ∃ k : Nat, k ≤ l.length ∧ i = .int .i64 k ∧ Hid (∀ j, j < k → l.getD j 0 = m.getD j 0) ∧ Qt w wr) (fun _ i _ => l.length - (intOf i).toNat)
    case atStart => exact ⟨0, by omega, rfl, (fun j hj => absurd hj (by omega)), Qt.refl _⟩
    case round =>
      obtain ⟨k, hk, rfl, HE, hq⟩ := hrel
      obtain ⟨n, rfl⟩ := hq.out
      by_cases hlt : k < l.length
      · have hltm : k < m.length := by rw [← Hlen.out]; exact hlt
        obtain ⟨a1, x, rfl, c1, HX, _⟩ := h1.get k hlt
        obtain ⟨a2, y, rfl, c2, HY, _⟩ := h2.get k hltm
        by_cases he : x = y
        · subst he
          go_wp2
          go_quiet (fail)
          go_wp2
          go_roundw
          case rel => exact ⟨k + 1, by omega, by go_num, (fun j hj => by rcases Nat.lt_succ_iff_lt_or_eq.1 hj with h | rfl; exact HE.out j h; exact HX.out.trans HY.out.symm), (by first | exact ⟨⟨_, rfl⟩⟩ | exact Qt.drewN hq _ | exact hq)⟩
          case measure => simp [intOf]; omega
        · have hb : (x != y) = true := by simpa using he
          have Hne := Lib.hid (show l ≠ m from fun e => he (by rw [← HX.out, ← HY.out, e]))
          clear he
          go_wp2
          go_quiet (fail)
          go_wp2
          go_ret
          exact ⟨by simp [Hne.out], (by first | exact ⟨⟨_, rfl⟩⟩ | exact Qt.drewN hq _ | exact hq)⟩
      · obtain rfl : k = l.length := by omega
        have e : l = m := eq_of_getD Hlen.out HE.out
        go_wp2
        go_ret
        exact ⟨by simp [e], (by first | exact ⟨⟨_, rfl⟩⟩ | exact Qt.drewN hq _ | exact hq)⟩
  · have b1 : ((l.length : Int) != (m.length : Int)) = true := by simp; omega
    have hne : l ≠ m := fun e => hlen (by rw [e])
    have Hne := Lib.hid hne
    clear hlen hne
    go_enter Try.func86, Try.ntmps86
    go_wp2
    go_ret
    exact ⟨by simp [Hne.out], Qt.refl _⟩

set_option maxHeartbeats 1000000 in
theorem packedSame_calls (g base width n : Nat) (ws : List Int) (g' base' width' n' : Nat) (ws' : List Int) (w : World) (ha : PArr w g base width n ws) (hb : PArr w g' base' width' n' ws') :
    Calls Try.prog 45 #[.pointer (some ⟨g, 0, none⟩), .pointer (some ⟨g', 0, none⟩)] w fun e w' => e = .returned (.bool (decide (width = width' ∧ n = n' ∧ ws = ws'))) ∧ Qt w w' := by
  obtain ⟨A, c, hb1, ho1⟩ := ha
  obtain ⟨B, d, hb2, ho2⟩ := hb
  have g0 : w.cell? ⟨g, 0, none⟩ = some (.int .i64 width) := hb1.cell 0
  have g1 : w.cell? ⟨g, 1, none⟩ = some (.int .i64 n) := hb1.cell 1
  have g2 : w.cell? ⟨g, 2, none⟩ = some (.slice A ws.length c) := hb1.cell 2
  have f0 : w.cell? ⟨g', 0, none⟩ = some (.int .i64 width') := hb2.cell 0
  have f1 : w.cell? ⟨g', 1, none⟩ = some (.int .i64 n') := hb2.cell 1
  have f2 : w.cell? ⟨g', 2, none⟩ = some (.slice B ws'.length d) := hb2.cell 2
  obtain ⟨A', c', he, hr1⟩ := ho1.rd
  simp only [Value.slice.injEq, true_and] at he
  obtain ⟨rfl, rfl⟩ := he
  obtain ⟨B', d', he, hr2⟩ := ho2.rd
  simp only [Value.slice.injEq, true_and] at he
  obtain ⟨rfl, rfl⟩ := he
  have hq0 := Qt.refl w
  by_cases e1 : width = width'
  · subst e1
    by_cases e2 : n = n'
    · subst e2
      go_enter Try.func45, Try.ntmps45
      go_wp2_with fail
      go_quiet ((go_at_call 86; exact Calls.quiet_of ((equalU64_calls A B c d ws ws' _ (hr1.up ((Up.refl w).drewN _)) (hr2.up ((Up.refl w).drewN _))).mono fun _ _ h => ⟨h.1, h.2.out⟩)))
      go_wp2_with fail
      go_ret
      exact ⟨by simp, (by first | exact ⟨⟨_, rfl⟩⟩ | exact Qt.drewN hq0 _ | exact hq0)⟩
    · have hd : ((n : Int) == (n' : Int)) = false := by simpa using (show (n : Int) ≠ n' by omega)
      have HE := Lib.hid e2
      clear e2
      go_enter Try.func45, Try.ntmps45
      go_wp2_with fail
      go_quiet (fail)
      go_wp2_with fail
      go_ret
      exact ⟨by simp [HE.out], (by first | exact ⟨⟨_, rfl⟩⟩ | exact Qt.drewN hq0 _ | exact hq0)⟩
  · have hd : ((width : Int) == (width' : Int)) = false := by simpa using (show (width : Int) ≠ width' by omega)
    have HE := Lib.hid e1
    clear e1
    go_enter Try.func45, Try.ntmps45
    go_wp2_with fail
    go_quiet (fail)
    go_wp2_with fail
    go_ret
    exact ⟨by simp [HE.out], (by first | exact ⟨⟨_, rfl⟩⟩ | exact Qt.drewN hq0 _ | exact hq0)⟩
end Go.Proofs.Ytneliajeokajbaa
