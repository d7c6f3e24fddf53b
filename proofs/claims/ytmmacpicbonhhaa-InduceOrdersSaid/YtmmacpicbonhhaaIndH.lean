/- The walks of induce.Heads and Tails. -/
import Derived.Test.YtmmacpicbonhhaaIndW
namespace Go.Proofs.Ytmmacpicbonhhaa
open Go.RowKit
set_option maxRecDepth 100000

theorem fold_max : ∀ (l : List Int) (a : Int), a ≤ l.foldl max a ∧ (∀ y ∈ l, y ≤ l.foldl max a) ∧ (l.foldl max a = a ∨ l.foldl max a ∈ l)
  | [], a => ⟨Int.le_refl _, fun y h => absurd h (by simp), .inl rfl⟩
  | z :: l, a => by
    obtain ⟨h1, h2, h3⟩ := fold_max l (max a z)
    rw [List.foldl_cons]
    refine ⟨by omega, fun y hy => ?_, ?_⟩
    · rcases List.mem_cons.1 hy with rfl | hy
      · omega
      · exact h2 y hy
    · rcases h3 with h3 | h3
      · rcases Int.le_total a z with h | h
        · exact .inr (by rw [h3, Int.max_eq_right h]; simp)
        · exact .inl (by rw [h3, Int.max_eq_left h])
      · exact .inr (by simp [h3])
theorem maxOf_spec {x : List Int} (hp : 0 < x.length) : Lib.maxOf x ∈ x ∧ ∀ y ∈ x, y ≤ Lib.maxOf x := by
  cases x with
  | nil => simp at hp
  | cons z l =>
    obtain ⟨h1, h2, h3⟩ := fold_max (z :: l) z
    show (z :: l).foldl max z ∈ z :: l ∧ _
    refine ⟨?_, h2⟩
    rcases h3 with h3 | h3
    · rw [h3]; simp
    · exact h3
/-- The buckets' number. -/
def topM (x : List Int) : Nat := (Lib.maxOf x + 1).toNat
structure Codes (x : List Int) : Prop where
  pos : 0 < x.length
  len : x.length ≤ 65536
  rng : ∀ y ∈ x, 0 ≤ y ∧ y < 65536
theorem Codes.top {x : List Int} (h : Codes x) : Lib.maxOf x + 1 = (topM x : Int) ∧ topM x ≤ 65536 ∧ ∀ y ∈ x, 0 ≤ y ∧ y < (topM x : Int) := by
  obtain ⟨h1, h2⟩ := maxOf_spec h.pos
  have h3 := h.rng _ h1
  unfold topM
  refine ⟨by omega, by omega, fun y hy => ?_⟩
  have := h2 y hy
  have := h.rng y hy
  omega
def headsL (x : List Int) : List Int := headsUp x (topM x) (topM x)
def tailsL (x : List Int) : List Int := tailsUp x (topM x) (topM x)
theorem hdC_wf {x : List Int} (h : Codes x) (c : Int) : InK .i64 (hdC x c : Int) := by
  have := hdC_le x c
  have := h.len
  exact InK.of_i64 (by omega) (by omega)
theorem headsL_wf {x : List Int} (h : Codes x) : ∀ z ∈ headsL x, InK .i64 z := fun z hz => by
  unfold headsL headsUp at hz
  obtain ⟨c, _, rfl⟩ := List.mem_map.1 hz
  split
  · exact hdC_wf h _
  · exact InK.of_i64 (by decide) (by decide)
theorem tailsL_wf {x : List Int} (h : Codes x) : ∀ z ∈ tailsL x, InK .i64 z := fun z hz => by
  unfold tailsL tailsUp at hz
  obtain ⟨c, _, rfl⟩ := List.mem_map.1 hz
  split
  · exact hdC_wf h _
  · have := cntC_le x (c : Int)
    have := h.len
    exact InK.of_i64 (by omega) (by omega)

set_option maxHeartbeats 2000000 in
theorem indHeads_bad (A0 : Option Addr) (c0 : Nat) (x : List Int) (w : World) (n : Int) (hn0 : n ≠ 0)
    (HF : Hid (Calls Try.prog 45 #[.slice A0 x.length c0] w fun en w' => en = .returned (.int .i64 n) ∧ ∃ q, w' = w.drewN q)) :
    Calls Try.prog 49 #[.slice A0 x.length c0] w (Ret2 w [] n) := by
  have hnb : (n != 0) = true := by simpa using hn0
  go_enter Try.func49, Try.ntmps49
  go_wp2_with fail
  refine (HF.out).mono ?_
  rintro en w1 ⟨rfl, q, rfl⟩
  go_wp2_with fail
  go_ret2
  exact ⟨_, rfl, Own.nil _ _ _ _, (Up.refl w).drewN q⟩
set_option maxHeartbeats 2000000 in
theorem indTails_bad (A0 : Option Addr) (c0 : Nat) (x : List Int) (w : World) (n : Int) (hn0 : n ≠ 0)
    (HF : Hid (Calls Try.prog 45 #[.slice A0 x.length c0] w fun en w' => en = .returned (.int .i64 n) ∧ ∃ q, w' = w.drewN q)) :
    Calls Try.prog 50 #[.slice A0 x.length c0] w (Ret2 w [] n) := by
  have hnb : (n != 0) = true := by simpa using hn0
  go_enter Try.func50, Try.ntmps50
  go_wp2_with fail
  refine (HF.out).mono ?_
  rintro en w1 ⟨rfl, q, rfl⟩
  go_wp2_with fail
  go_ret2
  exact ⟨_, rfl, Own.nil _ _ _ _, (Up.refl w).drewN q⟩
set_option maxHeartbeats 2000000 in
theorem indHeads_ok (A0 : Option Addr) (c0 : Nat) (x : List Int) (w : World) (h1 : Rd w .i64 A0 c0 x) (hc : Codes x)
    (HF : Hid (Calls Try.prog 45 #[.slice A0 x.length c0] w fun en w' => en = .returned (.int .i64 0) ∧ ∃ q, w' = w.drewN q)) :
    Calls Try.prog 49 #[.slice A0 x.length c0] w (Ret2 w (headsL x) 0) := by
  obtain ⟨b, o, rfl⟩ := h1.plain hc.pos
  obtain ⟨t1, t2, t3⟩ := hc.top
  have HB : Hid (∀ q, Calls Try.prog 71 #[.slice (some ⟨b, o, none⟩) x.length c0] (w.drewN q) (BuckPost x (topM x) (w.drewN q))) := Lib.hid fun q => buckets_calls b o c0 x _ (h1.drewN q) hc.pos hc.len (topM x) (Lib.hid t1) t2 (Lib.hid t3)
  have HW := Lib.hid (headsL_wf hc)
  have HM := Lib.hid t2
  clear t1 t2 t3 hc h1
  go_enter Try.func49, Try.ntmps49
  go_wp2_with fail
  refine (HF.out).mono ?_
  rintro en w1 ⟨rfl, q, rfl⟩
  go_wp2_with fail
  refine (HB.out q).mono ?_
  rintro en w2 ⟨H, T, rfl, _, hH, _, hbH, _, hu⟩
  clear HB HF
  go_wp2_with fail
  go_ret2
  exact ⟨_, rfl, Own.of_cells hbH hH (heads_len x _ _).symm (by unfold headsL; rw [heads_len]; have := HM.out; omega) HW.out, ((Up.refl w).drewN q).trans hu⟩
set_option maxHeartbeats 2000000 in
theorem indTails_ok (A0 : Option Addr) (c0 : Nat) (x : List Int) (w : World) (h1 : Rd w .i64 A0 c0 x) (hc : Codes x)
    (HF : Hid (Calls Try.prog 45 #[.slice A0 x.length c0] w fun en w' => en = .returned (.int .i64 0) ∧ ∃ q, w' = w.drewN q)) :
    Calls Try.prog 50 #[.slice A0 x.length c0] w (Ret2 w (tailsL x) 0) := by
  obtain ⟨b, o, rfl⟩ := h1.plain hc.pos
  obtain ⟨t1, t2, t3⟩ := hc.top
  have HB : Hid (∀ q, Calls Try.prog 71 #[.slice (some ⟨b, o, none⟩) x.length c0] (w.drewN q) (BuckPost x (topM x) (w.drewN q))) := Lib.hid fun q => buckets_calls b o c0 x _ (h1.drewN q) hc.pos hc.len (topM x) (Lib.hid t1) t2 (Lib.hid t3)
  have HW := Lib.hid (tailsL_wf hc)
  have HM := Lib.hid t2
  clear t1 t2 t3 hc h1
  go_enter Try.func50, Try.ntmps50
  go_wp2_with fail
  refine (HF.out).mono ?_
  rintro en w1 ⟨rfl, q, rfl⟩
  go_wp2_with fail
  refine (HB.out q).mono ?_
  rintro en w2 ⟨H, T, rfl, _, _, hT, _, hbT, hu⟩
  clear HB HF
  go_wp2_with fail
  go_ret2
  exact ⟨_, rfl, Own.of_cells hbT hT (tails_len x _ _).symm (by unfold tailsL; rw [tails_len]; have := HM.out; omega) HW.out, ((Up.refl w).drewN q).trans hu⟩

set_option maxHeartbeats 2000000 in
/-- The order of a text of one code. -/
theorem induced_one (A0 A1 : Option Addr) (c0 c1 : Nat) (x l : List Int) (w : World) (h1 : x.length = 1) :
    Calls Try.prog 42 #[.slice A0 x.length c0, .slice A1 l.length c1] w (Ret1 w [0]) := by
  rw [h1]
  go_enter Try.func42, Try.ntmps42
  go_wp2_with fail
  go_ret
  exact ⟨_, rfl, Own.lit w _ 3 .i64 [0] (Nat.le_refl _) (by decide) (fun x hx => by rw [List.mem_singleton.1 hx]; exact InK.of_i64 (by decide) (by decide)) 1 rfl _ rfl, (Up.refl w).alloc _⟩
end Go.Proofs.Ytmmacpicbonhhaa
