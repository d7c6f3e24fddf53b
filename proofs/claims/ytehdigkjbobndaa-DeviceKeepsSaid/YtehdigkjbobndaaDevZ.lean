/- Layer 3: New; a device that is nil. -/
import Derived.Test.YtehdigkjbobndaaDevN
namespace Go.Proofs.Ytehdigkjbobndaa
open Go.RowKit
set_option maxRecDepth 100000

def zeroPg (n : Nat) : List (List Int) := List.replicate n (List.replicate 256 0)
theorem zeroPg_flat (n : Nat) : (zeroPg n).flatten = List.replicate (256 * n) 0 := by
  unfold zeroPg
  rw [List.flatten_replicate_replicate, Nat.mul_comm]
set_option maxHeartbeats 1000000 in
theorem devNew_ok (n : Nat) (w : World) (h1 : 1 ≤ n) (h2 : n ≤ 2048) : Calls Try.prog 18 #[.int .i64 n] w (DevMade w (zeroPg n)) := by
  have hd2 : decide ((n : Int) < 1) = false := decide_eq_false (by omega)
  have hd3 : decide (2048 < (n : Int)) = false := decide_eq_false (by omega)
  go_enter Try.func18, Try.ntmps18
  go_wp2_with (refine wpl_make w.heap.size 5 .u8 1 Try.underlying22 infoU8 (256 * n) (by first | rfl | (show Value.int _ _ = _; congr 1; omega)) (by first | rfl | (show Value.int _ _ = _; congr 1; omega)) (by omega) (by omega) (Nat.le_refl _) ?_; intro w1 ho1 hu1 hs1)
  have hr1 : Rd w1 .u8 (some ⟨w.heap.size, 0, none⟩) (256 * n) (zeroPg n).flatten := by
    obtain ⟨A, c, e, hr⟩ := ho1.rd
    injection e with e1 _ e3
    subst e1 e3
    rw [zeroPg_flat]
    exact hr
  have HL := Lib.hid (devLoad_ok (some ⟨w.heap.size, 0, none⟩) (256 * n) (zeroPg n) w1 hr1 (fun p hp => by rw [List.eq_of_mem_replicate hp]; simp) (by unfold zeroPg; rw [List.length_replicate]; exact h1) (by unfold zeroPg; rw [List.length_replicate]; exact h2))
  rw [show (zeroPg n).length = n by unfold zeroPg; rw [List.length_replicate]] at HL
  clear hr1 ho1
  refine (HL.out).mono ?_
  rintro en w2 ⟨g, S, rfl, hd, hu, hS⟩
  have HD := Lib.hid hd
  clear hd
  go_wp2_with fail
  go_ret2
  exact ⟨g, S, rfl, HD.out, hu1.trans hu, fun b hb => by have := hS b hb; have := hu1.size; omega⟩
theorem devNew_bad (n : Int) (w : World) (h : n < 1 ∨ 2048 < n) : Calls Try.prog 18 #[.int .i64 n] w fun e w' => e = .returned (.tuple #[.pointer none, .int .i64 1]) ∧ w' = w := by
  by_cases h1 : n < 1
  · clear h
    go_enter Try.func18, Try.ntmps18
    go_wp2_with fail
    go_ret2
    exact ⟨rfl, rfl⟩
  · have h2 : 2048 < n := by omega
    have hd1 : decide (n < 1) = false := decide_eq_false h1
    clear h
    go_enter Try.func18, Try.ntmps18
    go_wp2_with fail
    go_ret2
    exact ⟨rfl, rfl⟩

theorem devOn_nil (w : World) : Calls Try.prog 25 #[.pointer none] w fun e w' => e = .returned (.bool false) ∧ w' = w := by
  go_enter Try.func25, Try.ntmps25
  go_wp2_with fail
  go_ret
  exact ⟨rfl, rfl⟩
theorem devPages_nil (w : World) : Calls Try.prog 14 #[.pointer none] w fun e w' => e = .returned (.int .i64 0) ∧ w' = w := by
  go_enter Try.func14, Try.ntmps14
  go_wp2_with fail
  go_ret
  exact ⟨rfl, rfl⟩
theorem devCheck_nil (no : Int) (w : World) : Calls Try.prog 54 #[.pointer none, .int .i64 no] w fun e w' => e = .returned (.int .i64 9) ∧ w' = w := by
  have hnot : ∀ (x : Bool) (w : World), (Op.unary .not (.bool x)).run Try.prog w = .ok (.bool (!x)) w := fun _ _ => rfl
  go_enter Try.func54, Try.ntmps54
  go_wp2_with fail
  refine (devOn_nil w).mono ?_
  rintro en w1 ⟨rfl, rfl⟩
  go_wp2_with fail
  go_ret
  exact ⟨rfl, rfl⟩
theorem devRead_nil (no : Int) (w : World) : Calls Try.prog 17 #[.pointer none, .int .i64 no] w fun e w' => e = .returned (.tuple #[.slice none 0 0, .int .i64 9]) ∧ w' = w := by
  go_enter Try.func17, Try.ntmps17
  go_wp2_with fail
  refine (devCheck_nil no w).mono ?_
  rintro en w1 ⟨rfl, rfl⟩
  go_wp2_with fail
  go_ret2
  exact ⟨rfl, rfl⟩
theorem devWrite_nil (no : Int) (A : Option Addr) (n c : Nat) (w : World) : Calls Try.prog 19 #[.pointer none, .int .i64 no, .slice A n c] w fun e w' => e = .returned (.int .i64 9) ∧ w' = w := by
  go_enter Try.func19, Try.ntmps19
  go_wp2_with fail
  refine (devCheck_nil no w).mono ?_
  rintro en w1 ⟨rfl, rfl⟩
  go_wp2_with fail
  go_ret
  exact ⟨rfl, rfl⟩
theorem devSync_nil (w : World) : Calls Try.prog 21 #[.pointer none] w fun e w' => e = .returned (.int .i64 9) ∧ w' = w := by
  have hnot : ∀ (x : Bool) (w : World), (Op.unary .not (.bool x)).run Try.prog w = .ok (.bool (!x)) w := fun _ _ => rfl
  go_enter Try.func21, Try.ntmps21
  go_wp2_with fail
  refine (devOn_nil w).mono ?_
  rintro en w1 ⟨rfl, rfl⟩
  go_wp2_with fail
  go_ret
  exact ⟨rfl, rfl⟩
theorem devCrash_nil (A : Option Addr) (n c : Nat) (w : World) : Calls Try.prog 23 #[.pointer none, .slice A n c] w fun e w' => e = .returned (.int .i64 0) ∧ w' = w := by
  go_enter Try.func23, Try.ntmps23
  go_wp2_with fail
  go_ret
  exact ⟨rfl, rfl⟩
theorem devPower_nil (w : World) : Calls Try.prog 24 #[.pointer none] w fun e w' => e = .returned (.tuple #[]) ∧ w' = w := by
  go_enter Try.func24, Try.ntmps24
  go_wp2_with fail
  refine bodyPost_end (results_none rfl _ _ _) rfl ?_
  exact ⟨rfl, rfl⟩
theorem devArm_nil (n : Int) (w : World) : Calls Try.prog 31 #[.pointer none, .int .i64 n] w fun e w' => e = .returned (.tuple #[]) ∧ w' = w := by
  go_enter Try.func31, Try.ntmps31
  go_wp2_with fail
  refine bodyPost_end (results_none rfl _ _ _) rfl ?_
  exact ⟨rfl, rfl⟩
theorem devWaiting_nil (w : World) : Calls Try.prog 34 #[.pointer none] w fun e w' => e = .returned (.int .i64 0) ∧ w' = w := by
  go_enter Try.func34, Try.ntmps34
  go_wp2_with fail
  go_ret
  exact ⟨rfl, rfl⟩
theorem devCounts_nil (w : World) : Calls Try.prog 33 #[.pointer none] w fun e w' => e = .returned (.tuple #[.int .i64 0, .int .i64 0, .int .i64 0]) ∧ w' = w := by
  go_enter Try.func33, Try.ntmps33
  go_wp2_with fail
  go_ret3
  exact ⟨rfl, rfl⟩
theorem devImage_nil (w : World) : Calls Try.prog 16 #[.pointer none] w fun e w' => e = .returned (.slice none 0 0) ∧ w' = w := by
  go_enter Try.func16, Try.ntmps16
  go_wp2_with fail
  go_ret
  exact ⟨rfl, rfl⟩
end Go.Proofs.Ytehdigkjbobndaa
