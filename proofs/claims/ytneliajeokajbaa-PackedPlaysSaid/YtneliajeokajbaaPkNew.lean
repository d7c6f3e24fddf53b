/- Layer 12: fits, Width, right, Size, Add, New. -/
import Derived.Test.YtneliajeokajbaaPkPut
import Derived.Test.YtneliajeokajbaaContains
namespace Go.Proofs.Ytneliajeokajbaa
open Go.RowKit
set_option maxRecDepth 100000

/-- A number fits into a width. -/
def fit1 (width : Nat) (n : Int) : Bool := decide (0 ≤ n) && decide (n < 2 ^ width)
theorem shr_zero (n : Int) (k : Nat) (h0 : 0 ≤ n) : (n / 2 ^ k = 0) ↔ n < 2 ^ k := by
  have hp : (0 : Int) < 2 ^ k := Int.pow_pos (by decide)
  constructor
  · intro h
    have := Int.emod_lt_of_pos n hp
    have := Int.mul_ediv_add_emod n (2 ^ k)
    rw [h] at this
    omega
  · intro h
    exact Int.ediv_eq_zero_of_lt h0 h

set_option maxHeartbeats 1000000 in
theorem packedFitsF_calls (b : Nat) (width : Nat) (n : Int) (w : World) (hb : w.cell? ⟨b, 0, none⟩ = some (.int .i64 width)) (hw : width ≤ 31) (_hn : InK .i64 n) :
    Calls Try.prog 105 #[.int .i64 n, .pointer (some ⟨b, 0, none⟩)] w fun e w' => e = .returned (.bool (!fit1 width n)) ∧ w = w' := by
  by_cases h0 : n < 0
  · have HE : Hid (fit1 width n = false) := Lib.hid (by unfold fit1; rw [decide_eq_false (by omega)]; rfl)
    go_enter Try.func105, Try.ntmps105
    go_wp2_with fail
    go_ret
    exact ⟨by rw [HE.out]; rfl, rfl⟩
  · have h00 : 0 ≤ n := by omega
    have hnd : decide (n < 0) = false := decide_eq_false h0
    have HZ := Lib.hid (shr_zero n width h00)
    by_cases h1 : n / 2 ^ width = 0
    · have HE : Hid (fit1 width n = true) := Lib.hid (by unfold fit1; rw [decide_eq_true h00, decide_eq_true (HZ.out.1 h1)]; rfl)
      have hz : (n / 2 ^ width != 0) = false := by simpa using h1
      clear h1 h0
      go_enter Try.func105, Try.ntmps105
      go_wp2_with fail
      go_ret
      exact ⟨by rw [HE.out]; rfl, rfl⟩
    · have HE : Hid (fit1 width n = false) := Lib.hid (by unfold fit1; rw [decide_eq_true h00, decide_eq_false (fun h => h1 (HZ.out.2 h))]; rfl)
      have hz : (n / 2 ^ width != 0) = true := by simpa using h1
      have hz2 : (n / 2 ^ width == 0) = false := by simpa using h1
      clear h1 h0
      go_enter Try.func105, Try.ntmps105
      go_wp2_with fail
      go_ret
      exact ⟨by rw [HE.out]; rfl, rfl⟩
def fitB (width : Nat) (l : List Int) : Bool := l.all (fit1 width)
set_option maxHeartbeats 1000000 in
theorem packedFits_calls (A : Option Addr) (c : Nat) (l : List Int) (width : Nat) (w : World) (h1 : Rd w .i64 A c l) (hw : width ≤ 31) :
    Calls Try.prog 87 #[.int .i64 width, .slice A l.length c] w fun e w' => e = .returned (.bool (fitB width l)) ∧ Up w w' := by
  have hA : Up w (w.alloc (.cells #[.int .i64 width] 3)) := (Up.refl _).alloc _
  have hc0 : (w.alloc (.cells #[.int .i64 width] 3)).cell? ⟨w.heap.size, 0, none⟩ = some (.int .i64 width) := (Blk.new w _ _).cell 0
  have HE : Hid ((!l.any fun n => !fit1 width n) = fitB width l) := Lib.hid (by unfold fitB; rw [List.all_eq_not_any_not])
  go_enter Try.func87, Try.ntmps87
  go_wp2_with fail
  refine (containsFunc_calls (fun n => !fit1 width n) _ _ A c l _ (h1.up hA) (fun args w => by kernel_rfl) ?_).mono ?_
  · intro n wr hu hn
    exact packedFitsF_calls w.heap.size width n wr (hu.cell hc0) hw hn
  · rintro e w' ⟨rfl, rfl⟩
    go_wp2_with fail
    go_ret
    exact ⟨by rw [← HE.out]; rfl, hA⟩
def rightW (n : Int) : Bool := decide (1 ≤ n) && decide (n ≤ 31)
theorem packedRight_calls (n : Int) (w : World) : Calls Try.prog 83 #[.int .i64 n] w fun e w' => e = .returned (.bool (rightW n)) ∧ w = w' := by
  by_cases h1 : 1 ≤ n
  · by_cases h2 : n ≤ 31
    · have HE : Hid (rightW n = true) := Lib.hid (by unfold rightW; rw [decide_eq_true h1, decide_eq_true h2]; rfl)
      go_enter Try.func83, Try.ntmps83
      go_wp2_with fail
      go_ret
      exact ⟨by rw [HE.out]; rfl, rfl⟩
    · have HE : Hid (rightW n = false) := Lib.hid (by unfold rightW; rw [decide_eq_false h2, Bool.and_false])
      have h3 : decide (n ≤ 31) = false := decide_eq_false h2
      have h4 : 31 < n := by omega
      clear h2
      go_enter Try.func83, Try.ntmps83
      go_wp2_with fail
      go_ret
      exact ⟨by rw [HE.out]; rfl, rfl⟩
  · have HE : Hid (rightW n = false) := Lib.hid (by unfold rightW; rw [decide_eq_false h1, Bool.false_and])
    have h3 : decide (1 ≤ n) = false := decide_eq_false h1
    have h4 : n ≤ 0 := by omega
    clear h1
    go_enter Try.func83, Try.ntmps83
    go_wp2_with fail
    go_ret
    exact ⟨by rw [HE.out]; rfl, rfl⟩
def sizeOf12 (width n : Int) : Int := if rightW width = true ∧ 0 ≤ n ∧ n ≤ 65536 then (width * n + 7) / 8 else 0
set_option maxHeartbeats 1000000 in
theorem packedSize_calls (width n : Int) (w : World) : Calls Try.prog 53 #[.int .i64 width, .int .i64 n] w fun e w' => e = .returned (.int .i64 (sizeOf12 width n)) ∧ w = w' := by
  cases hr : rightW width with
  | true =>
    have HR := Lib.hid hr
    have hr12 : 1 ≤ width ∧ width ≤ 31 := by unfold rightW at hr; simpa using hr
    obtain ⟨hr1, hr2⟩ := hr12
    by_cases h0 : 0 ≤ n
    · have hn0 : decide (n < 0) = false := decide_eq_false (by omega)
      by_cases h1 : n ≤ 65536
      · have HE := Lib.hid (show sizeOf12 width n = (width * n + 7) / 8 by unfold sizeOf12; rw [if_pos ⟨hr, h0, h1⟩])
        have hm0 : 0 ≤ width * n := Int.mul_nonneg (by omega) h0
        have hm1 : width * n ≤ 31 * 65536 := Int.mul_le_mul hr2 h1 h0 (by omega)
        have hn1 : decide (65536 < n) = false := decide_eq_false (by omega)
        clear hr
        go_enter Try.func53, Try.ntmps53
        go_wp2_with fail
        refine (packedRight_calls width w).mono ?_
        rw [HR.out]
        rintro e w' ⟨rfl, rfl⟩
        go_wp2_with fail
        go_ret
        exact ⟨by rw [HE.out]; rfl, rfl⟩
      · have HE := Lib.hid (show sizeOf12 width n = 0 by unfold sizeOf12; rw [if_neg (fun h => h1 h.2.2)])
        have hn1 : 65536 < n := by omega
        clear hr h1
        go_enter Try.func53, Try.ntmps53
        go_wp2_with fail
        refine (packedRight_calls width w).mono ?_
        rw [HR.out]
        rintro e w' ⟨rfl, rfl⟩
        go_wp2_with fail
        go_ret
        exact ⟨by rw [HE.out]; rfl, rfl⟩
    · have HE := Lib.hid (show sizeOf12 width n = 0 by unfold sizeOf12; rw [if_neg (fun h => h0 h.2.1)])
      have hn1 : n < 0 := by omega
      clear hr h0
      go_enter Try.func53, Try.ntmps53
      go_wp2_with fail
      refine (packedRight_calls width w).mono ?_
      rw [HR.out]
      rintro e w' ⟨rfl, rfl⟩
      go_wp2_with fail
      go_ret
      exact ⟨by rw [HE.out]; rfl, rfl⟩
  | false =>
    have HR := Lib.hid hr
    have HE := Lib.hid (show sizeOf12 width n = 0 by unfold sizeOf12; rw [if_neg (fun h => by rw [hr] at h; cases h.1)])
    clear hr
    go_enter Try.func53, Try.ntmps53
    go_wp2_with fail
    refine (packedRight_calls width w).mono ?_
    rw [HR.out]
    rintro e w' ⟨rfl, rfl⟩
    go_wp2_with fail
    go_ret
    exact ⟨by rw [HE.out]; rfl, rfl⟩

/-- An array's numbers, its words' bits. -/
structure PkOk (width n : Nat) (ws l : List Int) : Prop where mk ::
  len : l.length = n
  size : ws.length = (width * n + 63) / 64
  fit : ∀ x ∈ l, 0 ≤ x ∧ x < 2 ^ width
  bits : ∀ b, wbit ws b = if b < width * n then (l.getD (b / width) 0).toNat.testBit (b % width) else false
theorem PkOk.nil (width : Nat) : PkOk width 0 [] [] := ⟨rfl, by simp, fun _ h => absurd h (by simp), fun b => by rw [if_neg (by simp)]; exact wbit_zeros 0 b⟩
end Go.Proofs.Ytneliajeokajbaa
