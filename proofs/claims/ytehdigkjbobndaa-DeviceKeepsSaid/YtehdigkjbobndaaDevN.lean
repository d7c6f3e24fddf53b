/- Layer 3: Power, Arm, Load, New; a device that is nil. -/
import Derived.Test.YtehdigkjbobndaaDevC
namespace Go.Proofs.Ytehdigkjbobndaa
open Go.RowKit
set_option maxRecDepth 100000

/-- Power. -/
def powerS (s : DSt) : DSt := { s with off := false, armed := false, left := 0, wt := fun _ => [] }
set_option maxHeartbeats 1000000 in
theorem devPower_calls (g : Nat) (S : Nat → Prop) (s : DSt) (w : World) (h : DevI w g S s) :
    Calls Try.prog 24 #[.pointer (some ⟨g, 0, none⟩)] w fun e w' => e = .returned (.tuple #[]) ∧ DevI w' g S (powerS s) ∧ UpX S w w' := by
  obtain ⟨gl, cap, bm, n, f, hd⟩ := h.out
  have g0 : w.cell? ⟨g, 0, none⟩ = some (.bool s.off) := hd.b.cell 0
  have g1 : w.cell? ⟨g, 1, none⟩ = some (.bool s.armed) := hd.b.cell 1
  have g2 : w.cell? ⟨g, 2, none⟩ = some (.int .i64 s.left) := hd.b.cell 2
  have f0 := hd.b.frozen 0
  have f1 := hd.b.frozen 1
  have f2 := hd.b.frozen 2
  have g7 : w.cell? ⟨g, 7, none⟩ = some (.map (some bm)) := hd.b.cell 7
  have hx3 : UpX (fun b => b = g) w (((w.setCell ⟨g, 0, none⟩ (.bool false)).setCell ⟨g, 1, none⟩ (.bool false)).setCell ⟨g, 2, none⟩ (.int .i64 0)) := ((UpX.one w g 0 _).trans (UpX.one _ g 1 _)).trans (UpX.one _ g 2 _)
  have hd3 : DevX (((w.setCell ⟨g, 0, none⟩ (.bool false)).setCell ⟨g, 1, none⟩ (.bool false)).setCell ⟨g, 2, none⟩ (.int .i64 0)) g S { s with off := false, armed := false, left := 0 } gl cap bm n f :=
    hd.cells hx3 (((hd.b.set 0 (.bool false)).set 1 (.bool false)).set 2 (.int .i64 0)) rfl rfl (Nat.le_refl _) (InK.of_i64 (show (-9223372036854775808 : Int) ≤ 0 by decide) (show (0 : Int) ≤ 9223372036854775807 by decide))
  have HD3 := Lib.hid hd3
  have HX3 := Lib.hid hx3
  clear h hd hd3 hx3
  go_enter Try.func24, Try.ntmps24
  go_wp2_with (refine wpl_mapClear _ rfl _ 91 3 rfl 55 Try.underlying91 bm n f rfl HD3.out.map ?_; intro w5 hm5 hx5)
  refine bodyPost_end (results_none rfl _ _ _) rfl ?_
  exact ⟨rfl, ⟨_, _, _, _, _, HD3.out.cleared hx5 hm5⟩, (HX3.out.mono fun b _ e => by subst e; exact HD3.out.sg).trans (hx5.mono fun b _ e => by subst e; exact HD3.out.sbm)⟩
set_option maxHeartbeats 1000000 in
theorem devArm_calls (g : Nat) (S : Nat → Prop) (s : DSt) (x : Int) (w : World) (h : DevI w g S s) (hx : InK .i64 x) :
    Calls Try.prog 31 #[.pointer (some ⟨g, 0, none⟩), .int .i64 x] w fun e w' => e = .returned (.tuple #[]) ∧ DevI w' g S { s with armed := decide (0 ≤ x), left := x } ∧ UpX (fun b => b = g) w w' := by
  obtain ⟨gl, cap, bm, n, f, hd⟩ := h.out
  have HA := Lib.hid (powArm_calls g S s gl cap bm n f x w hd hx)
  clear h hd
  go_enter Try.func31, Try.ntmps31
  go_wp2_with fail
  refine (HA.out).mono ?_
  rintro en w1 ⟨rfl, hd, hx⟩
  have HD := Lib.hid hd
  clear hd
  go_wp2_with fail
  refine bodyPost_end (results_none rfl _ _ _) rfl ?_
  exact ⟨rfl, ⟨_, _, _, _, _, HD.out⟩, hx⟩
/-- A device of an image. -/
def newS (pg : List (List Int)) : DSt := ⟨false, false, 0, 0, 0, 0, pg, fun _ => []⟩
structure DevMade (w : World) (pg : List (List Int)) (en : Ending) (w' : World) : Prop where mk ::
  out : ∃ g S, en = .returned (.tuple #[.pointer (some ⟨g, 0, none⟩), .int .i64 0]) ∧ DevI w' g S (newS pg) ∧ Up w w' ∧ ∀ b, S b → w.heap.size ≤ b
set_option maxHeartbeats 1000000 in
theorem devLoad_ok (A : Option Addr) (c : Nat) (pg : List (List Int)) (w : World) (hr : Rd w .u8 A c pg.flatten) (hp : ∀ p ∈ pg, p.length = 256) (h1 : 1 ≤ pg.length) (h2 : pg.length ≤ 2048) :
    Calls Try.prog 12 #[.slice A (256 * pg.length) c] w (DevMade w pg) := by
  have hlen := flatten_len hp
  have HC := Lib.hid (bytesClone_n hr (by omega) hlen.symm)
  have HP := Lib.hid hp
  have HL := Lib.hid hlen
  clear hr hp hlen
  generalize hm : pg.length = m at *
  have HM := Lib.hid hm
  clear hm
  have hd1 : ((256 * m : Nat) : Int).tdiv 256 = (m : Int) := by
    rw [Int.tdiv_eq_ediv_of_nonneg (by omega)]; omega
  have hd2 : decide ((m : Int) < 1) = false := decide_eq_false (by omega)
  have hd3 : decide (2048 < (m : Int)) = false := decide_eq_false (by omega)
  have hmm := @run_makeMap Try.prog
  go_enter Try.func12, Try.ntmps12
  go_wp2_with fail
  refine (HC.out).mono ?_
  rintro en w1 ⟨v, rfl, hv, hu⟩
  have hv2 : ∃ gl cap, v = .slice (some ⟨gl, 0, none⟩) (256 * m) cap ∧ w.heap.size ≤ gl := by
    have hr := hv.row
    rw [HL.out] at hr
    rcases hr.2 with ⟨_, h0⟩ | ⟨gl, cap, cur, h0, hb, _⟩
    · omega
    · exact ⟨gl, cap, h0, hb⟩
  obtain ⟨gl, cap, rfl, hgl⟩ := hv2
  have hgl2 := (hv.lt gl rfl).2
  have HV := Lib.hid hv
  clear hv
  go_wp2_with fail
  have hu2 : Up w1 (w1.alloc (.map #[] 0)) := (Up.refl _).alloc _
  have hm2 := MapI.made Try.prog 3 w1
  have hs2 : (w1.alloc (.map #[] 0)).heap.size = w1.heap.size + 1 := by simp
  generalize w1.alloc (.map #[] 0) = w2 at *
  have hu3 : Up w2 (w2.alloc (.cells #[Value.bool false, .bool false, .int .i64 0, .int .i64 0, .int .i64 0, .int .i64 0, .slice (some ⟨gl, 0, none⟩) (256 * m) cap, .map (some w1.heap.size)] 102)) := (Up.refl _).alloc _
  have hb3 := Blk.new w2 102 #[Value.bool false, .bool false, .int .i64 0, .int .i64 0, .int .i64 0, .int .i64 0, .slice (some ⟨gl, 0, none⟩) (256 * m) cap, .map (some w1.heap.size)]
  have hs3 : (w2.alloc (.cells #[Value.bool false, .bool false, .int .i64 0, .int .i64 0, .int .i64 0, .int .i64 0, .slice (some ⟨gl, 0, none⟩) (256 * m) cap, .map (some w1.heap.size)] 102)).heap.size = w2.heap.size + 1 := by simp
  generalize w2.alloc (.cells #[Value.bool false, .bool false, .int .i64 0, .int .i64 0, .int .i64 0, .int .i64 0, .slice (some ⟨gl, 0, none⟩) (256 * m) cap, .map (some w1.heap.size)] 102) = w3 at *
  rw [hs2] at hb3 hs3
  go_ret2
  have hsz := hu.size
  have hM := HM.out
  refine ⟨w1.heap.size + 1, fun b => w.heap.size ≤ b ∧ b < w3.heap.size, rfl, ⟨gl, cap, w1.heap.size, 0, fun _ => none, ?_, ?_, (hm2.up hu3), Nat.zero_le _, ⟨fun p => .inl ⟨rfl, rfl⟩, fun p q u v hu => (by cases hu)⟩, ⟨by omega, by omega⟩, ⟨hgl, by omega⟩, ⟨by omega, by omega⟩, by omega, by omega, by omega, fun b hb => hb.2, ⟨HP.out, by show 1 ≤ pg.length; omega, by show pg.length ≤ 2048; omega, fun p l hl => (by cases hl), fun p hp => absurd rfl hp, InK.of_i64 (show (-9223372036854775808 : Int) ≤ 0 by decide) (show (0 : Int) ≤ 9223372036854775807 by decide), fun p => Nat.zero_le _⟩⟩, (hu.trans hu2).trans hu3, fun b hb => hb.1⟩
  · show Blk w3 (w1.heap.size + 1) 102 #[Value.bool false, .bool false, .int .i64 0, .int .i64 0, .int .i64 0, .int .i64 0, .slice (some ⟨gl, 0, none⟩) (256 * pg.length) cap, .map (some w1.heap.size)]
    rw [hM]
    exact hb3
  · show Own w3 0 5 .u8 (.slice (some ⟨gl, 0, none⟩) (256 * pg.length) cap) pg.flatten
    rw [hM]
    exact ((HV.out.up hu2).up hu3).mono (Nat.zero_le _)
set_option maxHeartbeats 1000000 in
theorem devLoad_bad (A : Option Addr) (c n : Nat) (w : World) (hn : n ≤ 9223372036854775807) (hb : n / 256 < 1 ∨ 2048 < n / 256 ∨ n ≠ n / 256 * 256) :
    Calls Try.prog 12 #[.slice A n c] w fun e w' => e = .returned (.tuple #[.pointer none, .int .i64 1]) ∧ w' = w := by
  have hd1 : ((n : Nat) : Int).tdiv 256 = ((n / 256 : Nat) : Int) := by
    rw [Int.tdiv_eq_ediv_of_nonneg (by omega)]; omega
  have hmul : n / 256 * 256 ≤ n := Nat.div_mul_le_self _ _
  generalize n / 256 = m at *
  by_cases h1 : m < 1
  · have hd2 : decide ((m : Int) < 1) = true := decide_eq_true (by omega)
    clear hb
    go_enter Try.func12, Try.ntmps12
    go_wp2_with fail
    go_ret2
    exact ⟨rfl, rfl⟩
  · have hd2 : decide ((m : Int) < 1) = false := decide_eq_false (by omega)
    by_cases h2 : 2048 < m
    · have hd3 : decide (2048 < (m : Int)) = true := decide_eq_true (by omega)
      clear hb
      go_enter Try.func12, Try.ntmps12
      go_wp2_with fail
      go_ret2
      exact ⟨rfl, rfl⟩
    · have hd3 : decide (2048 < (m : Int)) = false := decide_eq_false (by omega)
      have hne : (((n : Nat) : Int) != (m : Int) * 256) = true := by
        have : n ≠ m * 256 := by rcases hb with h | h | h; omega; omega; exact h
        simp
        omega
      clear hb
      go_enter Try.func12, Try.ntmps12
      go_wp2_with fail
      go_ret2
      exact ⟨rfl, rfl⟩
end Go.Proofs.Ytehdigkjbobndaa
