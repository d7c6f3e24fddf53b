/- The walk of the laws' example of layer 16, over contracts at that example. -/
import Derived.Test.YtmmacpicbonhhaaIndH
namespace Go.Proofs.Ytmmacpicbonhhaa
open Go.RowKit
set_option maxRecDepth 100000

theorem i64_small {l : List Int} (h : l.all (fun z => decide (0 ≤ z ∧ z < 100)) = true) : ∀ z ∈ l, InK .i64 z := fun z hz => by
  have := of_decide_eq_true (List.all_eq_true.1 h z hz)
  exact InK.of_i64 (by omega) (by omega)
/-- A block just laid reads as its numbers. -/
theorem rd_lit (w : World) (l : List Int) (h : l.all (fun z => decide (0 ≤ z ∧ z < 100)) = true) (hl : l.length ≤ 100) (n : Nat) (hn : n = l.length) : Rd (w.alloc (.cells (cellsOf .i64 l) 3)) .i64 (some ⟨w.heap.size, 0, none⟩) n l :=
  Rd.of_cells (Blk.new w 3 _) hn (by omega) (i64_small h)

set_option maxHeartbeats 4000000 in
theorem ind16_known (w : World)
    (H1 : ∀ A c w', Rd w' .i64 A c [2, 1, 2, 1, 0] → Calls Try.prog 49 #[.slice A 5 c] w' (Ret2 w' [0, 1, 3] 0)) (H2 : ∀ A c w', Rd w' .i64 A c [2, 1, 2, 1, 0] → Calls Try.prog 50 #[.slice A 5 c] w' (Ret2 w' [1, 3, 5] 0))
    (H3 : ∀ A c B d w', Rd w' .i64 A c [2, 1, 2, 1, 0] → Rd w' .i64 B d [4, 1] → Calls Try.prog 12 #[.slice A 5 c, .slice B 2 d] w' (Ret2 w' [4, 3, 1, 2, 0] 0))
    (H4 : ∀ A c B d w', Rd w' .i64 A c [0, 1, 3] → Rd w' .i64 B d [0, 1, 3] → Calls Try.prog 13 #[.slice A 3 c, .slice B 3 d] w' fun e w'' => e = .returned (.bool true) ∧ ∃ q, w'' = w'.drewN q)
    (H5 : ∀ A c B d w', Rd w' .i64 A c [1, 3, 5] → Rd w' .i64 B d [1, 3, 5] → Calls Try.prog 13 #[.slice A 3 c, .slice B 3 d] w' fun e w'' => e = .returned (.bool true) ∧ ∃ q, w'' = w'.drewN q)
    (H6 : ∀ A c B d w', Rd w' .i64 A c [4, 3, 1, 2, 0] → Rd w' .i64 B d [4, 3, 1, 2, 0] → Calls Try.prog 13 #[.slice A 5 c, .slice B 5 d] w' fun e w'' => e = .returned (.bool true) ∧ ∃ q, w'' = w'.drewN q) :
    Calls Try.prog 20 #[] w fun e w' => e = .returned (.bool true) ∧ Below w.heap.size w w' := by
  have hx1 : Rd (w.alloc (.cells #[.int .i64 2, .int .i64 1, .int .i64 2, .int .i64 1, .int .i64 0] 3)) .i64 (some ⟨w.heap.size, 0, none⟩) 5 [2, 1, 2, 1, 0] := rd_lit w [2, 1, 2, 1, 0] (by decide) (by decide) 5 rfl
  have hu1 : Up w (w.alloc (.cells #[.int .i64 2, .int .i64 1, .int .i64 2, .int .i64 1, .int .i64 0] 3)) := (Up.refl w).alloc _
  go_enter Try.func20, Try.ntmps20
  go_wp2_with fail
  generalize (w.alloc (.cells #[.int .i64 2, .int .i64 1, .int .i64 2, .int .i64 1, .int .i64 0] 3)) = w1 at *
  refine (H1 _ _ _ hx1).mono ?_
  rintro en w2 ⟨v2, rfl, hv2, hu2⟩
  obtain ⟨A2, c2, rfl, hr2⟩ := hv2.rd
  have hx2 := hx1.up hu2
  replace hu2 := hu1.trans hu2
  clear hx1 hu1 hv2
  go_wp2_with fail
  refine (H2 _ _ _ hx2).mono ?_
  rintro en w3 ⟨v3, rfl, hv3, hu3⟩
  obtain ⟨A3, c3, rfl, hr3⟩ := hv3.rd
  have hx3 := hx2.up hu3
  have hr23 := hr2.up hu3
  replace hu3 := hu2.trans hu3
  clear hx2 hu2 hv3 hr2
  go_wp2_with fail
  have hy1 : Rd (w3.alloc (.cells #[.int .i64 4, .int .i64 1] 3)) .i64 (some ⟨w3.heap.size, 0, none⟩) 2 [4, 1] := rd_lit w3 [4, 1] (by decide) (by decide) 2 rfl
  have ha1 : Up w3 (w3.alloc (.cells #[.int .i64 4, .int .i64 1] 3)) := (Up.refl w3).alloc _
  refine (H3 _ _ _ _ _ (hx3.up ha1) hy1).mono ?_
  rintro en w4 ⟨v4, rfl, hv4, hu4⟩
  obtain ⟨A4, c4, rfl, hr4⟩ := hv4.rd
  replace hu4 := ha1.trans hu4
  have hr24 := hr23.up hu4
  have hr34 := hr3.up hu4
  replace hu4 := hu3.trans hu4
  clear hx3 hu3 hv4 hr23 hr3 hy1 ha1
  go_wp2_with fail
  have hy2 : Rd (w4.alloc (.cells #[.int .i64 0, .int .i64 1, .int .i64 3] 3)) .i64 (some ⟨w4.heap.size, 0, none⟩) 3 [0, 1, 3] := rd_lit w4 [0, 1, 3] (by decide) (by decide) 3 rfl
  have ha2 : Up w4 (w4.alloc (.cells #[.int .i64 0, .int .i64 1, .int .i64 3] 3)) := (Up.refl w4).alloc _
  refine (H4 _ _ _ _ _ (hr24.up ha2) hy2).mono ?_
  rintro en w5 ⟨rfl, q5, rfl⟩
  have hb5 := ha2.drewN q5
  generalize ((w4.alloc (.cells #[.int .i64 0, .int .i64 1, .int .i64 3] 3)).drewN q5) = w5 at *
  have hr35 := hr34.up hb5
  have hr45 := hr4.up hb5
  have hu5 := hu4.trans hb5
  clear hr24 hr34 hr4 hy2 ha2 hb5 hu4
  go_wp2_with fail
  have hy3 : Rd (w5.alloc (.cells #[.int .i64 1, .int .i64 3, .int .i64 5] 3)) .i64 (some ⟨w5.heap.size, 0, none⟩) 3 [1, 3, 5] := rd_lit w5 [1, 3, 5] (by decide) (by decide) 3 rfl
  have ha3 : Up w5 (w5.alloc (.cells #[.int .i64 1, .int .i64 3, .int .i64 5] 3)) := (Up.refl w5).alloc _
  refine (H5 _ _ _ _ _ (hr35.up ha3) hy3).mono ?_
  rintro en w6 ⟨rfl, q6, rfl⟩
  have hb6 := ha3.drewN q6
  generalize ((w5.alloc (.cells #[.int .i64 1, .int .i64 3, .int .i64 5] 3)).drewN q6) = w6 at *
  have hr46 := hr45.up hb6
  have hu6 := hu5.trans hb6
  clear hr35 hr45 hy3 ha3 hb6 hu5
  go_wp2_with fail
  have hy4 : Rd (w6.alloc (.cells #[.int .i64 4, .int .i64 3, .int .i64 1, .int .i64 2, .int .i64 0] 3)) .i64 (some ⟨w6.heap.size, 0, none⟩) 5 [4, 3, 1, 2, 0] := rd_lit w6 [4, 3, 1, 2, 0] (by decide) (by decide) 5 rfl
  have ha4 : Up w6 (w6.alloc (.cells #[.int .i64 4, .int .i64 3, .int .i64 1, .int .i64 2, .int .i64 0] 3)) := (Up.refl w6).alloc _
  refine (H6 _ _ _ _ _ (hr46.up ha4) hy4).mono ?_
  rintro en w7 ⟨rfl, q7, rfl⟩
  have hb7 := (hu6.trans ha4).drewN q7
  go_wp2_with fail
  go_ret
  exact ⟨rfl, hb7.out⟩
end Go.Proofs.Ytmmacpicbonhhaa
