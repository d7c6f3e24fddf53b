/- CrcRegister: behind each part a register tells the sum, and how many bytes there were: the law's walk. -/
import Derived.Test.YthnkebihpmggbaaCrcKnown
import Derived.Test.YthnkebihpmggbaaPi
import Derived.Lib.Builder
namespace Go.Proofs.Ythnkebihpmggbaa
open Go.RowKit
set_option maxRecDepth 100000

theorem reg_info : (Try.prog.info? 33).bind (·.zero) = some (.agg #[.int .u32 0, .int .i64 0]) := by kernel_rfl

set_option maxHeartbeats 4000000 in
theorem lawCrcRegister_calls (A : Option Addr) (c : Nat) (ls : List (List Int)) (w : World) (hl : RdL w .u8 A c ls) :
    Calls Try.prog 4 #[.slice A ls.length c] w fun e w' => e = .returned (.bool true) ∧ Up w w' := by
  have hf := clip_flat ls
  generalize hcl : clip ls = cl at *
  have HC := Lib.hid hcl
  clear hcl
  go_enter Try.func4, Try.ntmps4
  go_wp2_with fail
  refine (few_calls A c ls w hl).mono ?_
  rintro e w1 ⟨X, cx, Y, cy, rfl, hx, hy, hu1⟩
  rw [HC.out] at hx hy ⊢
  have hxlen := hx.len
  generalize hfl : cl.flatten = fl at *
  have HF := Lib.hid hfl
  clear hfl
  have hxf := hx.f
  have hylt := hy.lt
  go_wp2_with (refine wpl_alloc' reg_info ?_; intro w2 hu2 hb2 hs2)
  have hr2 : Reg w2 w1.heap.size 0 0 := hb2
  have hxl : RdLF (fun b => b ≠ w1.heap.size) w2 .u8 X cx cl := (hxf.up hu2).mono fun b hb => by omega
  have hy2 := hy.up hu2
  clear hb2 hxf
  generalize hg : w1.heap.size = g at *
  have HG := Lib.hid hg
  clear hg
  go_loopw [6, 7] (fun n i wr => ∃ k m : Nat, k ≤ cl.length ∧ i = .int .i64 k ∧ n = .int .i64 m ∧ UpX (fun b => b = g) w2 wr ∧ Reg wr g (CrcPlain.crc (cl.take k).flatten) m ∧ Hid (m = (cl.take k).flatten.length)) (fun _ i _ => cl.length - (intOf i).toNat)
  case atStart => exact ⟨0, 0, by omega, rfl, rfl, UpX.refl _ _, by rw [List.take_zero, List.flatten_nil, CrcPlain.crc_nil]; exact hr2, Lib.hid rfl⟩
  case round =>
    obtain ⟨k, m, hk, rfl, rfl, hux, hr, HM⟩ := hrel
    by_cases hlt : k < cl.length
    · have hxr := hxl.upx hux fun b hb e => hb e
      obtain ⟨ad, l, A', c', rfl, hcell, hrd, HL⟩ := hxr.rd.get k hlt
      have hne : ad.block ≠ g := (hxr.cell ad rfl k hlt).1
      have hll := hrd.len
      have HS := Lib.hid (show (cl.take (k + 1)).flatten = (cl.take k).flatten ++ l by rw [take_succ_getD cl k [] hlt, HL.out]; simp)
      have hle : m + l.length ≤ fl.length := by
        have h1 := flatten_take_le cl (k + 1)
        rw [HS.out, List.length_append, HF.out] at h1
        rw [HM.out]; exact h1
      have HP := Lib.hid (show fl.take (m + l.length) = (cl.take k).flatten ++ l by
        rw [← HF.out, ← HS.out, HM.out]
        have h2 : cl.flatten = (cl.take (k + 1)).flatten ++ (cl.drop (k + 1)).flatten := by rw [← List.flatten_append, List.take_append_drop]
        rw [h2, ← List.length_append, ← HS.out]
        exact List.take_left)
      have hBlt : CrcPlain.crc (cl.take k).flatten < 4294967296 := by
        unfold CrcPlain.crc
        exact Nat.xor_lt_two_pow (n := 32) (crc_fold_lt wr cl _ k hxr.rd CrcPlain.ones_lt) CrcPlain.ones_lt
      have HA := Lib.hid (show CrcPlain.fold (CrcPlain.crc (cl.take k).flatten ^^^ CrcPlain.ones) [l].flatten ^^^ CrcPlain.ones = CrcPlain.crc ((cl.take k).flatten ++ l) by
        rw [← CrcPlain.crc_append]; simp)
      generalize hD : (cl.take k).flatten = D at *
      generalize hN : D ++ l = N at *
      have HD := Lib.hid hD
      have HN := Lib.hid hN
      clear hD hN
      have hyr : Rd wr .u8 Y cy fl := hy2.upx hux fun ad e h0 f => by have := hylt ad e h0; omega
      have hle' : ((m : Int) + (l.length : Int)) ≤ (fl.length : Int) := by omega
      have hle2 : ((m : Int) + (l.length : Int)) ≤ (cy : Int) := by have := hy2.le; omega
      have hfl2 : fl.length ≤ 1200 := by omega
      go_wp2_with fail
      obtain ⟨j, hj⟩ := Option.isSome_iff_exists.mp (show (Try.prog.info? 33).isSome = true by kernel_rfl)
      have hneq := fun (w' : World) => Lib.run_neq_ptr_same (P := Try.prog) (tp := 34) w' ⟨g, 0, none⟩ (by kernel_rfl) hj
      refine wp_region_pick (fun w' => UpX (fun b => b = g) wr w') [(true, 0), (true, 1), (true, 2), (true, 3), (false, 4), (false, 5), (true, 6), (true, 7), (true, 9), (true, 10), (true, 11), (false, 8), (false, 12), (true, 13), (true, 14), (true, 15), (true, 17), (false, 16), (true, 18), (true, 19)] (by kernel_rfl) (by kernel_rfl) (by kernel_rfl) (by kernel_rfl) (by kernel_rfl) (UpX.refl _ _).drew ?_
      simp only [pick, List.map_cons, List.map_nil, List.getElem?_cons_succ, List.getElem?_cons_zero, Option.getD_some]
      repeat (refine pi_step rfl (fun K hK => ?_); go_big_quiet_step ((intro _; rfl)); refine wpQuiet_nil (hK _ ?_); clear hK K)
      refine pi_load (ad.add k) (.slice A' l.length c') (by kernel_rfl) rfl (by kernel_rfl) (fun w' h => h.cell hcell (by rw [addr_add_block]; exact hne)) ?_
      dsimp only [Act.put]
      simp only [List.setIfInBounds_toArray, List.set_cons_zero, List.set_cons_succ]
      refine pi_do (fun K hK => ?_)
      go_wp2_with fail
      have hx4 : UpX (fun b => b = g) wr (wr.alloc (.cells #[.slice A' l.length c'] 23)).drew := ((UpX.refl _ _).alloc _).drew
      refine ⟨hx4, ?_⟩
      refine pi_do (fun K hK => ?_)
      have hlit : RdLF (fun b => b ≠ g) (wr.alloc (.cells #[.slice A' l.length c'] 23)).drew .u8 (some ⟨wr.heap.size, 0, none⟩) 1 [l] := by
        refine RdLF.block (Blk.new wr 23 _).out (fun e => by have := Blk.lt hr; omega) ?_ rfl (by simp)
        exact (Vals.nil _ _ _).snoc (hrd.upx hx4 fun ad' e h0 => (hxr.off k hlt hcell ad' e h0)) rfl fun ad' e h0 => hxr.off k hlt hcell ad' e h0
      have hr4 : Reg (wr.alloc (.cells #[.slice A' l.length c'] 23)).drew g (CrcPlain.crc D) m := (Blk.alloc hr _).drew
      go_wp2_with (go_at_call 15; refine (regAdd_calls g (CrcPlain.crc D) m _ 1 [l] _ hBlt hr4 hlit (by simp; omega)).mono ?_; rintro e w5 ⟨rfl, hx5, hr5⟩)
      rw [HA.out] at hr5
      have hr5' : Reg w5 g (CrcPlain.crc N) (m + l.length) := by simpa using hr5
      clear hr5
      refine ⟨hx4.trans hx5, ?_⟩
      repeat (refine pi_step rfl (fun K hK => ?_); go_big_quiet_step ((intro _; rfl)); refine wpQuiet_nil (hK _ ?_); clear hK K)
      refine pi_do (fun K hK => ?_)
      go_wp2_with (go_at_call 16; refine (regSum_calls _ _ _ _ hr5').mono ?_; rintro e w6 ⟨rfl, rfl⟩)
      refine ⟨hx4.trans hx5, ?_⟩
      refine pi_do (fun K hK => ?_)
      have hy5 : Rd w5 .u8 Y cy fl := hyr.upx (hx4.trans hx5) fun ad h0 e f => by have := hylt ad h0 e; omega
      have hN5 : Rd w5 .u8 Y cy N := by have := hy5.take (m + l.length); rwa [HP.out] at this
      have HNL := Lib.hid (show m + l.length = N.length by rw [← HP.out, List.length_take]; omega)
      go_wp2_with (go_at_call 14; refine (refSum_n hN5 HNL.out).mono ?_; rintro e w6 ⟨rfl, rfl⟩)
      refine ⟨hx4.trans hx5, ?_⟩
      repeat (refine pi_step rfl (fun K hK => ?_); go_big_quiet_step ((intro _; rfl)); refine wpQuiet_nil (hK _ ?_); clear hK K)
      refine pi_do (fun K hK => ?_)
      go_wp2_with (go_at_call 17; refine (regLen_calls _ _ _ _ hr5').mono ?_; rintro e w6 ⟨rfl, rfl⟩)
      refine ⟨hx4.trans hx5, ?_⟩
      repeat (refine pi_step rfl (fun K hK => ?_); go_big_quiet_step ((intro _; rfl)); refine wpQuiet_nil (hK _ ?_); clear hK K)
      refine pi_nil ?_
      have HDN := Lib.hid (show m + l.length = N.length by rw [← HN.out, List.length_append, HM.out])
      go_wp2_with fail
      go_roundw
      case rel => exact ⟨k + 1, m + l.length, by omega, by simp, by simp, hux.trans (hx4.trans hx5), by rw [HS.out]; exact hr5', by rw [HS.out]; exact HDN⟩
      case measure => simp [intOf]; omega
    · have hke : k = cl.length := by omega
      subst hke
      rw [List.take_length, HF.out] at hr HM
      have HM2 := HM.out
      clear HM
      subst HM2
      have hyr : Rd wr .u8 Y cy fl := hy2.upx hux fun ad e h0 f => by have := hylt ad e h0; omega
      obtain ⟨j, hj⟩ := Option.isSome_iff_exists.mp (show (Try.prog.info? 33).isSome = true by kernel_rfl)
      go_wp2_with fail
      refine (crcKnown_calls _).mono ?_
      rintro e w5 ⟨rfl, hu5⟩
      go_wp2_with fail
      have hx5 : UpX (fun b => b = g) w2 w5 := hux.trans (hu5.x _)
      have hr5 : Reg w5 g (CrcPlain.crc fl) fl.length := Blk.up hr hu5
      have hy5 : Rd w5 .u8 Y cy fl := hyr.up hu5
      refine (regSum_calls _ _ _ _ hr5).mono ?_
      rintro e w6 ⟨rfl, rfl⟩
      go_wp2_with fail
      refine (refSum_n hy5 rfl).mono ?_
      rintro e w6 ⟨rfl, rfl⟩
      go_wp2_with fail
      refine (regAdd_nil _ _ _ _).mono ?_
      rintro e w6 ⟨rfl, rfl⟩
      go_wp2_with fail
      refine (regSum_nil _).mono ?_
      rintro e w6 ⟨rfl, rfl⟩
      go_wp2_with fail
      refine (regLen_nil _).mono ?_
      rintro e w6 ⟨rfl, rfl⟩
      go_wp2_with fail
      go_ret
      exact ⟨rfl, hu1.trans ((Up.thenx hu2 hx5 (fun b hb e => by have := HG.out; omega)).trans ((Up.refl _).alloc _))⟩
end Go.Proofs.Ythnkebihpmggbaa
