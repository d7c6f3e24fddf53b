/- Layer 14: the statement's own same. -/
import Derived.Test.YtneliajeokajbaaAlpha2
namespace Go.Proofs.Ytneliajeokajbaa
open Go.RowKit
set_option maxRecDepth 100000

set_option maxHeartbeats 2000000 in
theorem law14same_calls (A B : Option Addr) (c d : Nat) (l m : List (List Int)) (w : World) (h1 : RdL w .u8 A c l) (h2 : RdL w .u8 B d m) (he : l = m) :
    Calls Try.prog 18 #[.slice A l.length c, .slice B m.length d] w fun e w' => e = .returned (.bool true) ∧ Up w w' := by
  subst he
  have hlen := h1.len
  go_enter Try.func18, Try.ntmps18
  go_wp2_with fail
  go_loopw [5] (fun i wr => ∃ k : Nat, k ≤ l.length ∧ i = .int .i64 k ∧ Up w wr) (fun i _ => l.length - (intOf i).toNat)
  case atStart => exact ⟨0, by omega, rfl, Up.refl _⟩
  case round =>
    obtain ⟨k, hk, rfl, hu⟩ := hrel
    by_cases hlt : k < l.length
    · obtain ⟨a1, x, A1, c1, rfl, hc1, hr1, HX⟩ := (h1.up hu).get k hlt
      obtain ⟨a2, y, A2, c2, rfl, hc2, hr2, HY⟩ := (h2.up hu).get k hlt
      have hxy : y = x := HY.out.symm.trans HX.out
      subst hxy
      go_wp2_with fail
      refine wp_region_pick (fun w' => UpX (fun _ => False) wr w') [(true, 0), (true, 1), (true, 2), (true, 3), (true, 4), (true, 5), (true, 6), (true, 7), (false, 8), (true, 9)] (by kernel_rfl) (by kernel_rfl) (by kernel_rfl) (by kernel_rfl) (by kernel_rfl) (UpX.refl _ _).drew ?_
      simp only [pick, List.map_cons, List.map_nil, List.getElem?_cons_succ, List.getElem?_cons_zero, Option.getD_some]
      repeat (refine pi_step rfl (fun K hK => ?_); go_big_quiet_step ((intro _; rfl)); refine wpQuiet_nil (hK _ ?_); clear hK K)
      refine pi_load (a1.add k) (.slice A1 y.length c1) (by kernel_rfl) rfl (by kernel_rfl) (fun w' h => h.cell hc1 (fun f => f)) ?_
      dsimp only [Act.put]
      simp only [List.setIfInBounds_toArray, List.set_cons_zero, List.set_cons_succ]
      repeat (refine pi_step rfl (fun K hK => ?_); go_big_quiet_step ((intro _; rfl)); refine wpQuiet_nil (hK _ ?_); clear hK K)
      refine pi_load (a2.add k) (.slice A2 y.length c2) (by kernel_rfl) rfl (by kernel_rfl) (fun w' h => h.cell hc2 (fun f => f)) ?_
      dsimp only [Act.put]
      simp only [List.setIfInBounds_toArray, List.set_cons_zero, List.set_cons_succ]
      refine pi_do (fun K hK => ?_)
      have hux : UpX (fun _ => False) wr wr.drew := (UpX.refl _ _).drew
      have hup : Up wr wr.drew := (Up.refl _).drew
      go_wp2_with (go_at_call 64; refine (refSame_eq (hr1.up hup) (hr2.up hup) rfl rfl rfl).mono ?_; rintro e w6 ⟨rfl, hq6⟩)
      refine ⟨hux.trans (hq6.up.x _), ?_⟩
      repeat (refine pi_step rfl (fun K hK => ?_); go_big_quiet_step ((intro _; rfl)); refine wpQuiet_nil (hK _ ?_); clear hK K)
      refine pi_nil ?_
      go_wp2_with fail
      go_roundw
      case rel => exact ⟨k + 1, by omega, by simp, hu.trans (hup.trans hq6.up)⟩
      case measure => simp [intOf]; omega
    · go_wp2_with fail
      go_ret
      exact ⟨rfl, hu⟩
end Go.Proofs.Ytneliajeokajbaa
