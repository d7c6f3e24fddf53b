/- Layer 12: Parse, of the document's bytes. -/
import Derived.Test.YtneliajeokajbaaPkTells
import Derived.Test.YtneliajeokajbaaPkMk
import Derived.Test.YtneliajeokajbaaCopy
import Derived.Test.YtneliajeokajbaaVarKnown
namespace Go.Proofs.Ytneliajeokajbaa
open Go.RowKit
set_option maxRecDepth 100000

theorem tb_zero (b : Bool) (x : Nat) : (b.toNat + 2 * x).testBit 0 = b := by
  rw [Nat.testBit_zero]
  cases b <;> simp <;> omega
theorem tb_succ (b : Bool) (x n : Nat) : (b.toNat + 2 * x).testBit (n + 1) = x.testBit n := by
  rw [Nat.testBit_succ]
  congr 1
  cases b <;> simp <;> omega
theorem byteOf_bit (f : Nat → Bool) (k : Nat) : (byteOf f).testBit k = if k < 8 then f k else false := by
  unfold byteOf
  match k with
  | 0 => exact tb_zero _ _
  | 1 => rw [tb_succ]; exact tb_zero _ _
  | 2 => rw [tb_succ, tb_succ]; exact tb_zero _ _
  | 3 => rw [tb_succ, tb_succ, tb_succ]; exact tb_zero _ _
  | 4 => rw [tb_succ, tb_succ, tb_succ, tb_succ]; exact tb_zero _ _
  | 5 => rw [tb_succ, tb_succ, tb_succ, tb_succ, tb_succ]; exact tb_zero _ _
  | 6 => rw [tb_succ, tb_succ, tb_succ, tb_succ, tb_succ, tb_succ]; exact tb_zero _ _
  | 7 =>
    rw [tb_succ, tb_succ, tb_succ, tb_succ, tb_succ, tb_succ, tb_succ]
    exact tb_zero (f 7) 0
  | n + 8 =>
    rw [tb_succ, tb_succ, tb_succ, tb_succ, tb_succ, tb_succ, tb_succ, if_neg (by omega)]
    have := tb_succ (f 7) 0 n
    rw [Nat.mul_zero, Nat.add_zero] at this
    rw [this, Nat.zero_testBit]
theorem byteOf_lt (f : Nat → Bool) : byteOf f < 256 := by
  rw [show (256 : Nat) = 2 ^ 8 from rfl]
  exact Nat.lt_pow_two_of_testBit _ fun i hi => by rw [byteOf_bit, if_neg (by omega)]
theorem byteOf_high (f : Nat → Bool) (o : Nat) (h : ∀ k, o ≤ k → k < 8 → f k = false) : byteOf f / 2 ^ o = 0 := by
  refine Nat.div_eq_of_lt (Nat.lt_pow_two_of_testBit _ fun i hi => ?_)
  rw [byteOf_bit]
  by_cases h8 : i < 8
  · rw [if_pos h8]; exact h i hi h8
  · rw [if_neg h8]
/-- Words into which so many bytes were read. -/
structure ParW (f : Nat → Bool) (L i : Nat) (ws : List Int) : Prop where
  len : ws.length = L
  wf : ∀ x ∈ ws, InK .u64 x
  bits : ∀ b, wbit ws b = if b < 8 * i then f b else false
theorem ParW.zero (f : Nat → Bool) (L : Nat) : ParW f L 0 (List.replicate L 0) := ⟨by simp, fun x hx => by rw [List.eq_of_mem_replicate hx]; exact InK.of_u64 (by decide) (by decide), fun b => by rw [wbit_zeros, if_neg (by omega)]⟩
theorem ParW.step {f : Nat → Bool} {L i : Nat} {ws : List Int} (h : ParW f L i ws) (hi : i / 8 < L) (Y : Nat) (hY : ws.getD (i / 8) 0 = (Y : Int)) (hYl : Y < 18446744073709551616) : ParW f L (i + 1) (ws.set (i / 8) ((Y ||| shl64 (byteOf fun k => f (8 * i + k)) (8 * (i % 8)) : Nat) : Int)) := by
  have hlt : (Y ||| shl64 (byteOf fun k => f (8 * i + k)) (8 * (i % 8))) < 18446744073709551616 := by
    rw [show (18446744073709551616 : Nat) = 2 ^ 64 from rfl] at *
    exact Nat.or_lt_two_pow hYl (shl64_lt _ _)
  refine ⟨by rw [List.length_set]; exact h.len, fun x hx => ?_, fun b => ?_⟩
  · rcases List.mem_or_eq_of_mem_set hx with h5 | rfl
    · exact h.wf x h5
    · exact InK.of_u64 (by omega) (by omega)
  · rw [wbit_set _ _ _ _ (by rw [h.len]; exact hi)]
    have hb := h.bits b
    by_cases e : b / 64 = i / 8
    · rw [if_pos e, Nat.testBit_or, shl64_bit, byteOf_bit]
      have hy : Y.testBit (b % 64) = wbit ws b := by unfold wbit; rw [e, hY]; rfl
      rw [hy, hb]
      by_cases h1 : b < 8 * i
      · rw [if_pos h1, if_pos (show b < 8 * (i + 1) by omega), decide_eq_false (show ¬ 8 * (i % 8) ≤ b % 64 by omega)]
        simp
      · rw [if_neg h1, decide_eq_true (show b % 64 < 64 by omega), decide_eq_true (show 8 * (i % 8) ≤ b % 64 by omega)]
        by_cases h2 : b < 8 * (i + 1)
        · rw [if_pos h2, if_pos (show b % 64 - 8 * (i % 8) < 8 by omega), show 8 * i + (b % 64 - 8 * (i % 8)) = b by omega]
          simp
        · rw [if_neg h2, if_neg (show ¬ b % 64 - 8 * (i % 8) < 8 by omega)]
          simp
    · rw [if_neg e, hb]
      by_cases h1 : b < 8 * i
      · rw [if_pos h1, if_pos (by omega)]
      · rw [if_neg h1, if_neg (by omega)]
theorem ParW.done {W : Nat} {l ws : List Int} (h : ParW (docBit W l) ((W * l.length + 63) / 64) ((W * l.length + 7) / 8) ws) (hf : ∀ x ∈ l, 0 ≤ x ∧ x < 2 ^ W) : PkOk W l.length ws l := by
  refine ⟨rfl, h.len, hf, fun b => ?_⟩
  rw [h.bits]
  unfold docBit
  by_cases h1 : b < W * l.length
  · rw [if_pos h1, if_pos (by omega)]
  · rw [if_neg h1]
    split <;> rfl
/-- The bytes behind the head. -/
def docTail (W : Nat) (l : List Int) : List Int := (List.range ((W * l.length + 7) / 8)).map fun i => (byteOf (fun k => docBit W l (8 * i + k)) : Int)
theorem docTail_len (W : Nat) (l : List Int) : (docTail W l).length = (W * l.length + 7) / 8 := by simp [docTail]
theorem docTail_get (W : Nat) (l : List Int) (i : Nat) (h : i < (W * l.length + 7) / 8) : (docTail W l).getD i 0 = (byteOf (fun k => docBit W l (8 * i + k)) : Int) := by
  unfold docTail
  rw [List.getD_eq_getElem?_getD, List.getElem?_map, List.getElem?_range h]
  rfl
theorem infoU64 : (Try.prog.info? 71).map (fun i => (i.zero, i.size, i.bytes)) = some (some (.int .u64 0), 1, 8) := by kernel_rfl

theorem plain_of {w : World} {ad : Addr} {v : Value} (h : w.cell? (ad.add 0) = some v) : ∃ b o, ad = ⟨b, o, none⟩ := by
  obtain ⟨b, o, s⟩ := ad
  cases s with
  | none => exact ⟨b, o, rfl⟩
  | some s =>
    rw [show (⟨b, o, some s⟩ : Addr).add 0 = ⟨b, o, some s⟩ from rfl] at h
    unfold World.cell? at h
    split at h
    · simp at h
    · cases h
theorem add_plain (b o j : Nat) : (⟨b, o, none⟩ : Addr).add j = ⟨b, o + j, none⟩ := by
  unfold Addr.add
  split <;> simp_all
set_option maxHeartbeats 8000000 in
theorem packedParse_calls (W : Nat) (h1 : 1 ≤ W) (h2 : W ≤ 31) (l tl : List Int) (hl : l.length ≤ 65536) (htl : tl.length ≤ 65536) (hf : Hid (∀ x ∈ l, 0 ≤ x ∧ x < 2 ^ W)) (A : Option Addr) (c : Nat) (w : World) (D : List Int) (HD : Hid (D = docBytes W l ++ tl)) (h : Rd w .u8 A c D) :
    Calls Try.prog 70 #[.slice A D.length c] w fun e w' => ∃ g ws R cr, e = .returned (.tuple #[.pointer (some ⟨g, 0, none⟩), .slice R tl.length cr, .int .i64 0]) ∧ PArr w' g w.heap.size W l.length ws ∧ PkOk W l.length ws l ∧ Rd w' .u8 R cr tl ∧ Up w w' := by
  have hWl : W * l.length ≤ 31 * 65536 := Nat.mul_le_mul h2 hl
  have hvl := vput_len10 l.length (by omega)
  have hcons : D = (W : Int) :: (vput l.length ++ (docTail W l ++ tl)) := by rw [HD.out]; unfold docBytes docTail; simp
  have hdl : D.length = 1 + (vput l.length).length + (W * l.length + 7) / 8 + tl.length := by rw [hcons]; simp [docTail]; omega
  have HDL := Lib.hid hdl
  have hdp : 2 ≤ D.length := by have := vput_pos l.length; omega
  have hdb : D.length ≤ 1000000 := by omega
  obtain ⟨ad, v, rfl, hc0, HV0, _⟩ := h.get 0 (by omega)
  have hv0 : v = (W : Int) := by rw [← HV0.out, hcons]; rfl
  subst hv0
  obtain ⟨b, o, rfl⟩ := plain_of hc0
  have hdr := h.drop_ 1 (by omega)
  rw [if_neg (by have := h.le; omega), show D.drop 1 = vput l.length ++ (docTail W l ++ tl) by rw [hcons]; rfl] at hdr
  have hcl := h.le
  have HG := varGet_calls _ _ _ w hdr (by simp [docTail]; omega)
  rw [vget_vput _ _ (by decide) _ (by omega)] at HG
  have hlen1 : (vput l.length ++ (docTail W l ++ tl)).length = D.length - 1 := by rw [hcons]; simp
  rw [hlen1] at HG
  rw [show Option.map (fun y : Addr => y.add 1) (some (⟨b, o, none⟩ : Addr)) = some ⟨b, o + 1, none⟩ from congrArg some (add_plain b o 1)] at HG
  have HGG := Lib.hid HG
  clear HG hdr hlen1 hcons hdl HV0
  go_enter Try.func70, Try.ntmps70
  have hc1 : c ≠ 1 := by omega
  have HSZ := Lib.hid (show sizeOf12 W l.length = (((W * l.length + 7) / 8 : Nat) : Int) by
    unfold sizeOf12
    rw [if_pos ⟨by unfold rightW; rw [decide_eq_true (by omega), decide_eq_true (by omega)]; rfl, by omega, by omega⟩]
    simp)
  have HRW := Lib.hid (show rightW W = true by unfold rightW; rw [decide_eq_true (by omega), decide_eq_true (by omega)]; rfl)
  go_wp2_with fail
  refine (HGG.out).mono ?_
  rintro en w1 ⟨⟨v1, rfl, hv1, hu1⟩⟩
  rw [show vrest (l.length, (vput l.length).length, 0) (vput l.length ++ (docTail W l ++ tl)) = docTail W l ++ tl by unfold vrest; rw [if_pos rfl, List.drop_left]] at hv1
  obtain ⟨A1, c1, rfl, hr1⟩ := hv1.rd
  rw [List.length_append, docTail_len]
  have hc01 := hu1.cell hc0
  rw [add_plain, Nat.add_zero] at hc01
  have hrl := hr1.le
  rw [List.length_append, docTail_len] at hrl
  clear HGG hv1 hvl HDL h hc0
  go_wp2_with fail
  refine (packedRight_calls (W : Int) w1).mono ?_
  rw [HRW.out]
  rintro en w2 ⟨rfl, rfl⟩
  go_wp2_with fail
  refine (packedSize_calls (W : Int) (l.length : Int) w1).mono ?_
  rw [HSZ.out]
  rintro en w2 ⟨rfl, rfl⟩
  have HSB := Lib.hid (show (W * l.length + 7) / 8 ≤ 300000 by omega)
  have HMX := Lib.hid (show 8 * ((W * l.length + 7) / 8) ≤ W * l.length + 7 ∧ W * l.length ≤ 8 * ((W * l.length + 7) / 8) by omega)
  generalize hS : (W * l.length + 7) / 8 = S at *
  have HSE := Lib.hid hS
  clear hS
  go_wp2_with fail
  generalize hL : (W * l.length + 63) / 64 = L at *
  have HLE := Lib.hid hL
  clear hL
  refine wp_region_tree (fun w' => Up w1 w') (.quiet 0 (.quiet 1 (.quiet 2 (.quiet 3 (.quiet 4 (.quiet 5 (.quiet 6 (.quiet 7 (.quiet 8 (.quiet 9 (.quiet 10 (.quiet 11 (.quiet 12 (.quiet 13 (.alt 14 (.quiet 15 (.alt 16 (.quiet 17 (.nil)) (.stop))) (.stop)))))))))))))))) (by kernel_rfl) (by kernel_rfl) rfl (by kernel_rfl) (by kernel_rfl) ((Up.refl w1).drew) ?_
  simp only [pickT, List.getElem?_cons_succ, List.getElem?_cons_zero, Option.getD_some]
  repeat (refine tree_step rfl (fun K hK => ?_); go_big_quiet_step ((intro _; rfl)); refine wpQuiet_nil (hK _ ?_); clear hK K)
  refine tree_load ⟨b, o, none⟩ (.int .u8 W) (by kernel_rfl) rfl (by kernel_rfl) (fun w' h => h.cell hc01) ?_
  dsimp only [Act.put]
  simp only [List.setIfInBounds_toArray, List.set_cons_zero, List.set_cons_succ]
  repeat (refine tree_step rfl (fun K hK => ?_); go_big_quiet_step ((intro _; rfl)); refine wpQuiet_nil (hK _ ?_); clear hK K)
  refine tree_load ⟨b, o, none⟩ (.int .u8 W) (by kernel_rfl) rfl (by kernel_rfl) (fun w' h => h.cell hc01) ?_
  dsimp only [Act.put]
  simp only [List.setIfInBounds_toArray, List.set_cons_zero, List.set_cons_succ]
  repeat (refine tree_step rfl (fun K hK => ?_); go_big_quiet_step ((intro _; rfl)); refine wpQuiet_nil (hK _ ?_); clear hK K)
  refine tree_do (fun K hK => ?_)
  have hsz1 := hu1.size
  have hPI : (W : Int) * (l.length : Int) = ((W * l.length : Nat) : Int) := by simp
  have hLI : ((W : Int) * (l.length : Int) + 64 - 1) / 64 = (L : Int) := by rw [hPI, ← HLE.out]; omega
  have hLb : L ≤ 40000 := by rw [← HLE.out]; omega
  refine wpl_makeK 71 .u64 8 Try.underlying117 infoU64 L (congrArg (Value.int .i64) hLI) (congrArg (Value.int .i64) hLI) (by omega) (by omega) ?_
  clear hLI hPI
  intro wn hbO hun hsn
  have hsz1' : w1.drew.heap.size = w1.heap.size := rfl
  rw [hsz1'] at hbO hsn ⊢
  clear hsz1'
  go_wp2_with fail
  refine ⟨((Up.refl w1).drew).trans hun, ?_⟩
  dsimp only [Act.put]
  simp only [List.setIfInBounds_toArray, List.set_cons_zero, List.set_cons_succ]
  repeat (refine tree_step rfl (fun K hK => ?_); go_big_quiet_step ((intro _; rfl)); refine wpQuiet_nil (hK _ ?_); clear hK K)
  refine tree_do (fun K hK => ?_)
  go_wp2_with fail
  have hua : Up wn (wn.alloc (.cells #[.int .i64 W, .int .i64 l.length, .slice (some ⟨w1.heap.size, 0, none⟩) L L] 119)) := (Up.refl wn).alloc _
  have hg := Blk.new wn 119 #[.int .i64 W, .int .i64 l.length, .slice (some ⟨w1.heap.size, 0, none⟩) L L]
  have hU2 : Up w1 (wn.alloc (.cells #[.int .i64 W, .int .i64 l.length, .slice (some ⟨w1.heap.size, 0, none⟩) L L] 119)) := (((Up.refl w1).drew).trans hun).trans hua
  have hbO2 := hbO.up hua
  refine ⟨hU2, ?_⟩
  generalize (wn.alloc (.cells #[.int .i64 W, .int .i64 l.length, .slice (some ⟨w1.heap.size, 0, none⟩) L L] 119)) = w2 at *
  have hgO : w1.heap.size < wn.heap.size := by omega
  generalize wn.heap.size = g at *
  generalize hOe : w1.heap.size = O at *
  subst hsn
  clear hua hbO hun hgO
  repeat (refine tree_step rfl (fun K hK => ?_); go_big_quiet_step ((intro _; rfl)); refine wpQuiet_nil (hK _ ?_); clear hK K)
  refine tree_nil ?_
  go_wp2_with fail
  have HPW := Lib.hid (ParW.zero (docBit W l) L)
  have HTG := Lib.hid (docTail_get W l)
  have HTL := Lib.hid (docTail_len W l)
  rw [HSE.out] at HTG HTL
  have HOUT := Lib.hid fun b (hb : W * l.length ≤ b) => docBit_out W l b hb
  generalize hfd : docBit W l = f at *
  have HFD := Lib.hid hfd
  clear hfd
  go_loopw [10, 11, 68] (fun _ _ i wr => ∃ (k : Nat) (ws : List Int), k ≤ S ∧ i = .int .i64 k ∧ Hid (ParW f L k ws) ∧ Blk wr O 71 (cellsOf .u64 ws) ∧ Blk wr (O + 1) 119 #[.int .i64 W, .int .i64 l.length, .slice (some ⟨O, 0, none⟩) L L] ∧ Up w1 wr) (fun _ _ i _ => S - (intOf i).toNat)
  case atStart => exact ⟨0, _, Nat.zero_le _, rfl, HPW, hbO2, hg, hU2⟩
  case round =>
    clear hbO2 hg hU2 HPW
    obtain ⟨k, ws, hk, rfl, HP, hbO, hg, hU⟩ := hrel
    by_cases hlt : k < S
    · obtain ⟨ad1, v, rfl, hcv, HV, _⟩ := (hr1.up hU).get k (by rw [List.length_append, HTL.out]; omega)
      have hv : v = (byteOf (fun j => f (8 * k + j)) : Int) := by
        rw [← HV.out, ← HTG.out k hlt, List.getD_eq_getElem?_getD, List.getD_eq_getElem?_getD, List.getElem?_append_left (by rw [HTL.out]; exact hlt)]
      have hcb := byteOf_lt fun j => f (8 * k + j)
      have hkL : k / 8 < L := by have := HMX.out; have := HLE.out; omega
      have hx := HP.out.wf (ws.getD (k / 8) 0) (by rw [List.getD_eq_getElem?_getD, List.getElem?_eq_getElem (by rw [HP.out.len]; exact hkL)]; exact List.getElem_mem _)
      have HST := fun Y hY hYl => Lib.hid (HP.out.step hkL Y hY hYl)
      have hgO2 := (hbO.cell (k / 8)).trans (cellsOf_get _ _ (k / 8) (by rw [HP.out.len]; exact hkL))
      obtain ⟨Y, hY⟩ := Int.eq_ofNat_of_zero_le hx.u64.1
      have hYl : Y < 18446744073709551616 := by have := hx.u64.2; omega
      have HST := HST Y hY hYl
      rw [hY] at hgO2
      have hfO := hbO.frozen (k / 8)
      have hg2 := hg.cell 2
      have hg2 : wr.cell? ⟨O + 1, 2, none⟩ = some (.slice (some ⟨O, 0, none⟩) L L) := hg2
      generalize byteOf (fun j => f (8 * k + j)) = cb at *
      subst hv
      have HbO := Lib.hid hbO
      have Hg := Lib.hid hg
      have HU := Lib.hid hU
      clear hx hY hbO hg hU
      go_wp2_with fail
      refine wp_region_tree (Cells [(⟨O + 1, 2, none⟩, .slice (some ⟨O, 0, none⟩) L L), (⟨O, k / 8, none⟩, .int .u64 (Y : Int))]) (.quiet 0 (.quiet 1 (.quiet 2 (.quiet 3 (.quiet 4 (.quiet 5 (.quiet 6 (.quiet 7 (.quiet 8 (.quiet 9 (.quiet 10 (.quiet 11 (.quiet 12 (.quiet 13 (.quiet 14 (.quiet 15 (.alt 16 (.nil) (.stop)))))))))))))))))) (by kernel_rfl) (by kernel_rfl) rfl (by kernel_rfl) (by kernel_rfl) (Cells.cons hg2 (Cells.cons hgO2 (Cells.nil _))) ?_
      simp only [pickT, List.getElem?_cons_succ, List.getElem?_cons_zero, Option.getD_some]
      repeat (refine tree_step rfl (fun K hK => ?_); go_big_quiet_step ((intro _; rfl)); refine wpQuiet_nil (hK _ ?_); clear hK K)
      refine tree_load ⟨O + 1, 2, none⟩ (.slice (some ⟨O, 0, none⟩) L L) (by kernel_rfl) rfl (by kernel_rfl) (fun w' h => h.head) ?_
      dsimp only [Act.put]
      simp only [List.setIfInBounds_toArray, List.set_cons_zero, List.set_cons_succ]
      repeat (refine tree_step rfl (fun K hK => ?_); go_big_quiet_step ((intro _; rfl)); refine wpQuiet_nil (hK _ ?_); clear hK K)
      refine tree_load ⟨O, k / 8, none⟩ (.int .u64 (Y : Int)) (by kernel_rfl) rfl (by kernel_rfl) (fun w' h => h.tail.head) ?_
      dsimp only [Act.put]
      simp only [List.setIfInBounds_toArray, List.set_cons_zero, List.set_cons_succ]
      repeat (refine tree_step rfl (fun K hK => ?_); go_big_quiet_step ((intro _; rfl)); refine wpQuiet_nil (hK _ ?_); clear hK K)
      refine tree_do (fun K hK => ?_)
      go_wp2_with fail
      refine ⟨trivial, ?_⟩
      refine tree_nil ?_
      go_wp2_with fail
      have HE := Lib.hid (show bits .or .u64 (Y : Int) (IntKind.u64.wrap ((cb : Int) * 2 ^ (8 * (k % 8)))) = ((Y ||| shl64 cb (8 * (k % 8)) : Nat) : Int) by rw [shl64_run, u64_or_nat _ _ hYl (shl64_lt _ _)])
      rw [HE.out]
      refine ⟨⟨k + 1, _, by omega, by simp, HST, by rw [← cellsOf_set]; exact (HbO.out.set (k / 8) _).drew, (Hg.out.other ⟨O, k / 8, none⟩ _ (show O + 1 ≠ O by omega)).drew, (HU.out.setCell (by show w1.heap.size ≤ O; omega) _).drew⟩, ?_⟩
      simp [intOf]; omega
    · have hke : k = S := by omega
      subst hke
      have HPK := Lib.hid (HP.out)
      have HbO := Lib.hid hbO
      have Hg := Lib.hid hg
      have HU := Lib.hid hU
      have hg0 : wr.cell? ⟨O + 1, 0, none⟩ = some (.int .i64 W) := hg.cell 0
      have hrr := hr1.up hU
      have HRT := Lib.hid (hrr.drop_ k (by rw [List.length_append, HTL.out]; omega))
      rw [show (docTail W l ++ tl).drop k = tl by rw [← HTL.out, List.drop_left]] at HRT
      have HPI := Lib.hid (show (W : Int) * (l.length : Int) = ((W * l.length : Nat) : Int) by simp)
      have HPKO := Lib.hid (ParW.done (W := W) (l := l) (ws := ws) (by rw [HFD.out, HLE.out, HSE.out]; exact HP.out) hf.out)
      have HPA : Hid (PArr wr (O + 1) w.heap.size W l.length ws) := Lib.hid ⟨some ⟨O, 0, none⟩, L, by rw [HP.out.len]; exact hg, by rw [HP.out.len]; exact Own.of_cells hbO hsz1 HP.out.len.symm (by rw [HP.out.len]; omega) HP.out.wf⟩
      clear hbO hg hU
      by_cases h8 : W * l.length % 8 = 0
      · have hz : (W : Int) * (l.length : Int) % 8 = 0 := by rw [HPI.out]; omega
        clear h8
        by_cases hcS : c1 = k
        · skip
          go_wp2_with fail
          refine wp_region_tree (fun _ => True) (.quiet 0 (.quiet 1 (.quiet 2 (.quiet 3 (.quiet 4 (.quiet 5 (.quiet 6 (.nil)))))))) (by kernel_rfl) (by kernel_rfl) rfl (by kernel_rfl) (by kernel_rfl) trivial ?_
          simp only [pickT, List.getElem?_cons_succ, List.getElem?_cons_zero, Option.getD_some]
          repeat (refine tree_step rfl (fun K hK => ?_); go_big_quiet_step ((intro _; rfl)); refine wpQuiet_nil (hK _ ?_); clear hK K)
          refine tree_nil ?_
          go_wp2_with fail
          go_ret3
          exact ⟨O + 1, ws, _, _, rfl, HPA.out.up (Up.refl wr).drew, HPKO.out, by have h9 := HRT.out; rw [if_pos hcS, hcS, Nat.sub_self] at h9; exact h9.up (Up.refl wr).drew, (hu1.trans HU.out).drew⟩
        · skip
          go_wp2_with fail
          refine wp_region_tree (fun _ => True) (.quiet 0 (.quiet 1 (.quiet 2 (.quiet 3 (.quiet 4 (.quiet 5 (.quiet 6 (.nil)))))))) (by kernel_rfl) (by kernel_rfl) rfl (by kernel_rfl) (by kernel_rfl) trivial ?_
          simp only [pickT, List.getElem?_cons_succ, List.getElem?_cons_zero, Option.getD_some]
          repeat (refine tree_step rfl (fun K hK => ?_); go_big_quiet_step ((intro _; rfl)); refine wpQuiet_nil (hK _ ?_); clear hK K)
          refine tree_nil ?_
          go_wp2_with fail
          go_ret3
          exact ⟨O + 1, ws, _, _, rfl, HPA.out.up (Up.refl wr).drew, HPKO.out, by have h9 := HRT.out; rw [if_neg hcS] at h9; exact h9.up (Up.refl wr).drew, (hu1.trans HU.out).drew⟩
      · obtain ⟨q, hq⟩ : ∃ q, W * l.length % 8 = q := ⟨_, rfl⟩
        rw [hq] at h8
        have hq1 : 0 < q := by omega
        have hq8 : q < 8 := by omega
        have hz : (W : Int) * (l.length : Int) % 8 = (q : Int) := by rw [HPI.out, ← hq]; omega
        have HQ := Lib.hid hq
        have hk1 : 1 ≤ k := by have := HMX.out; omega
        obtain ⟨ad1, v, rfl, hcv, HV, _⟩ := hrr.get (k - 1) (by rw [List.length_append, HTL.out]; omega)
        have hv : v = (byteOf (fun j => f (8 * (k - 1) + j)) : Int) := by
          rw [← HV.out, ← HTG.out (k - 1) (by omega), List.getD_eq_getElem?_getD, List.getD_eq_getElem?_getD, List.getElem?_append_left (by rw [HTL.out]; omega)]
        have hhi := byteOf_high (fun j => f (8 * (k - 1) + j)) q fun j hj _ => HOUT.out _ (by have := HMX.out; have := HQ.out; omega)
        have hcb := byteOf_lt fun j => f (8 * (k - 1) + j)
        generalize byteOf (fun j => f (8 * (k - 1) + j)) = cb at *
        subst hv
        have hsh : (cb : Int) / 2 ^ q = 0 := by rw [show ((2 : Int) ^ q) = ((2 ^ q : Nat) : Int) by simp]; omega
        have hkI : wrap64 ((k : Int) - 1) = ((k - 1 : Nat) : Int) := by have := HSB.out; unfold wrap64; omega
        clear h8 hq hhi
        by_cases hcS : c1 = k
        · skip
          go_wp2_with fail
          refine wp_region_tree (fun _ => True) (.quiet 0 (.quiet 1 (.quiet 2 (.quiet 3 (.quiet 4 (.quiet 5 (.quiet 6 (.nil)))))))) (by kernel_rfl) (by kernel_rfl) rfl (by kernel_rfl) (by kernel_rfl) trivial ?_
          simp only [pickT, List.getElem?_cons_succ, List.getElem?_cons_zero, Option.getD_some]
          repeat (refine tree_step rfl (fun K hK => ?_); go_big_quiet_step ((intro _; rfl)); refine wpQuiet_nil (hK _ ?_); clear hK K)
          refine tree_nil ?_
          go_wp2_with fail
          go_ret3
          exact ⟨O + 1, ws, _, _, rfl, HPA.out.up (Up.refl wr).drew, HPKO.out, by have h9 := HRT.out; rw [if_pos hcS, hcS, Nat.sub_self] at h9; exact h9.up (Up.refl wr).drew, (hu1.trans HU.out).drew⟩
        · skip
          go_wp2_with fail
          refine wp_region_tree (fun _ => True) (.quiet 0 (.quiet 1 (.quiet 2 (.quiet 3 (.quiet 4 (.quiet 5 (.quiet 6 (.nil)))))))) (by kernel_rfl) (by kernel_rfl) rfl (by kernel_rfl) (by kernel_rfl) trivial ?_
          simp only [pickT, List.getElem?_cons_succ, List.getElem?_cons_zero, Option.getD_some]
          repeat (refine tree_step rfl (fun K hK => ?_); go_big_quiet_step ((intro _; rfl)); refine wpQuiet_nil (hK _ ?_); clear hK K)
          refine tree_nil ?_
          go_wp2_with fail
          go_ret3
          exact ⟨O + 1, ws, _, _, rfl, HPA.out.up (Up.refl wr).drew, HPKO.out, by have h9 := HRT.out; rw [if_neg hcS] at h9; exact h9.up (Up.refl wr).drew, (hu1.trans HU.out).drew⟩
end Go.Proofs.Ytneliajeokajbaa
