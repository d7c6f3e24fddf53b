/- The walk of frame's Decode: bytes that are not those of their frame. -/
import Derived.Test.YtehdigkjbobndaaFrmD
namespace Go.Proofs.Ytehdigkjbobndaa
open Go.RowKit Go.Proofs.YtehdigkjbobndaaW.PrintWords
set_option maxRecDepth 100000
set_option maxHeartbeats 8000000 in
theorem frmDecode_ne (A : Option Addr) (c : Nat) (l : List Int) (w : World) (h1 : Rd w .u8 A c l) (HL : Hid (l.length = 256)) (hh : holds l = true) (K E P : Int) (b : List Int) (m : Nat) (hm : m ≤ 238)
    (HK : Hid (l.getD 1 0 = K)) (HE : Hid (num4 (l.drop 2) = E)) (HP : Hid (num2 (l.drop 6) = P)) (HM : Hid (num2 (l.drop 8) = m)) (HB : Hid ((l.drop 10).take m = b)) (HBL : Hid (b.length = m)) (hck : frmCheck K E P b = 0) (hne0 : frmEnc K E P b ≠ l) :
    Calls Try.prog 43 #[.slice A 256 c] w (DecPost w (0, 0, 0, [], 3)) := by
  have hu0 : Up w (w.alloc (.cells #[.int .i64 0, .int .i64 0, .int .i64 0, .slice none 0 0] 67)) := (Up.refl w).alloc _
  have hB0 := Blk.new w 67 #[.int .i64 0, .int .i64 0, .int .i64 0, .slice none 0 0]
  have HC := Lib.hid (crcHolds_n (n := 256) (h1.up hu0) (by have := HL.out; omega) HL.out.symm)
  rw [hh] at HC
  go_enter Try.func43, Try.ntmps43
  go_wp2_with fail
  refine HC.out.mono ?_
  rintro en w1 ⟨rfl, hu1⟩
  go_wp2_with (refine wpl_slice (t := 22) 5 1 .u8 A 256 c l .i64 .i64 8 10 Try.underlying22 infoU8 rfl (h1.up (hu0.trans hu1)) rfl rfl (by omega) (by omega) (by have := HL.out; omega) ?_; intro A1 hr1)
  refine (frmNum2_calls (l := l) (lo := 8) hr1 rfl (by have := HL.out; omega) rfl).mono ?_
  rintro en w2 ⟨rfl, hu2⟩
  have hz := hB0.up (hu1.trans hu2)
  replace hu2 := hu0.trans (hu1.trans hu2)
  rw [HM.out]
  go_wp2_with fail
  have hzlt := hz.lt
  have hr2 := h1.up hu2
  have hlc := h1.le
  have hcc : 256 ≤ c := by have := HL.out; omega
  clear hlc
  obtain ⟨ad, x1, rfl, hcell1, HX1, hxr1⟩ := hr2.get 1 (by have := HL.out; omega)
  obtain rfl : x1 = K := by rw [← HK.out]; exact HX1.out.symm
  have HW := (Up.refl w2).drew
  refine wp_region_tree (fun w' => Up w2 w') (.quiet 0 (.quiet 1 (.quiet 2 (.quiet 3 (.quiet 4 (.quiet 5 (.quiet 7 (.quiet 8 (.quiet 10 (.quiet 11 (.quiet 12 (.quiet 13 (.quiet 14 (.quiet 15 (.alt 6 (.alt 9 (.alt 16 (.quiet 17 (.alt 18 (.alt 19 (.nil) (.stop)) (.stop))) (.alt 18 (.alt 16 (.quiet 17 (.alt 19 (.nil) (.stop))) (.stop)) (.stop))) (.alt 18 (.alt 9 (.alt 16 (.quiet 17 (.alt 19 (.nil) (.stop))) (.stop)) (.stop)) (.stop))) (.alt 18 (.alt 6 (.alt 9 (.alt 16 (.quiet 17 (.alt 19 (.nil) (.stop))) (.stop)) (.stop)) (.stop)) (.stop))))))))))))))))) (by kernel_rfl) (by kernel_rfl) rfl (by kernel_rfl) (by kernel_rfl) (HW) ?_
  simp only [pickT, List.getElem?_cons_succ, List.getElem?_cons_zero, Option.getD_some]
  iterate 2 (refine tree_step rfl (fun K hK => ?_); go_big_quiet_step ((intro _; rfl)); refine wpQuiet_nil (hK _ ?_); clear hK K)
  refine tree_load (ad.add 1) (.int .u8 x1) (by kernel_rfl) rfl (by kernel_rfl) (fun w' h => h.cell hcell1) ?_
  dsimp only [Act.put]
  simp only [List.setIfInBounds_toArray, List.set_cons_zero, List.set_cons_succ]
  iterate 2 (refine tree_step rfl (fun K hK => ?_); go_big_quiet_step ((intro _; rfl)); refine wpQuiet_nil (hK _ ?_); clear hK K)
  rw [show wrap64 x1 = x1 by have := hxr1.u8; unfold wrap64; omega]
  obtain ⟨A5, e5, hr5⟩ := hr2.sliced 2 6 c (by omega) (by have := HL.out; omega) (by omega) (Nat.le_refl _)
  refine tree_slice_lh 5 1 (.int .u8 0) (some ad) 256 c .i64 .i64 2 6 Try.underlying22 infoU8 (by kernel_rfl) rfl rfl rfl (by omega) (by omega) (by omega) ?_
  rw [show sliced (some ad) (2 : Int).toNat (6 : Int).toNat c 1 = .slice A5 4 (c - 2) from e5]
  clear e5
  dsimp only [Act.put]
  simp only [List.setIfInBounds_toArray, List.set_cons_zero, List.set_cons_succ]
  iterate 1 (refine tree_step rfl (fun K hK => ?_); go_big_quiet_step ((intro _; rfl)); refine wpQuiet_nil (hK _ ?_); clear hK K)
  obtain ⟨A8, e8, hr8⟩ := hr2.sliced 6 8 c (by omega) (by have := HL.out; omega) (by omega) (Nat.le_refl _)
  refine tree_slice_lh 5 1 (.int .u8 0) (some ad) 256 c .i64 .i64 6 8 Try.underlying22 infoU8 (by kernel_rfl) rfl rfl rfl (by omega) (by omega) (by omega) ?_
  rw [show sliced (some ad) (6 : Int).toNat (8 : Int).toNat c 1 = .slice A8 2 (c - 6) from e8]
  clear e8
  dsimp only [Act.put]
  simp only [List.setIfInBounds_toArray, List.set_cons_zero, List.set_cons_succ]
  iterate 5 (refine tree_step rfl (fun K hK => ?_); go_big_quiet_step ((intro _; rfl)); refine wpQuiet_nil (hK _ ?_); clear hK K)
  obtain ⟨A15, e15, hr15⟩ := hr2.sliced 10 (10 + m) (10 + m) (by omega) (by have := HL.out; omega) (by omega) (by omega)
  rw [part_eq, HB.out] at hr15
  refine tree_slice_lhm 5 1 (.int .u8 0) (some ad) 256 c .i64 .i64 .i64 10 (10 + (m : Int)) Try.underlying22 infoU8 (by kernel_rfl) rfl rfl rfl rfl (by omega) (by omega) (by omega) ?_
  rw [show sliced (some ad) (10 : Int).toNat (10 + (m : Int)).toNat (10 + (m : Int)).toNat 1 = .slice A15 m m by rw [show (10 + (m : Int)).toNat = 10 + m by omega, show (10 : Int).toNat = 10 from rfl, e15, show 10 + m - 10 = m by omega]]
  rw [show 10 + m - 10 = m by omega] at hr15
  clear e15
  dsimp only [Act.put]
  simp only [List.setIfInBounds_toArray, List.set_cons_zero, List.set_cons_succ]
  generalize w2.drew = wc at *
  replace hz := hz.up HW
  clear hcell1 HX1
  have hIK := hxr1
  refine tree_alt (fun K hK => ?_) ?_
  ·
    go_wp2_with fail
    refine (frmNum4_calls (l := l) (lo := 2) (hr5.up HW) rfl (by have := HL.out; omega) rfl).mono ?_
    rw [HE.out]
    rintro en wc ⟨rfl, hS⟩
    go_wp2_with fail
    refine ⟨HW.trans hS, ?_⟩
    (try replace hb5 := hb5.up hS)
    (try replace hv16 := hv16.up hS)
    replace hz := hz.up hS
    replace HW := HW.trans hS
    clear hS
    refine tree_alt (fun K hK => ?_) ?_
    ·
      go_wp2_with fail
      refine (frmNum2_calls (l := l) (lo := 6) (hr8.up HW) rfl (by have := HL.out; omega) rfl).mono ?_
      rw [HP.out]
      rintro en wc ⟨rfl, hS⟩
      go_wp2_with fail
      refine ⟨HW.trans hS, ?_⟩
      (try replace hb5 := hb5.up hS)
      (try replace hv16 := hv16.up hS)
      replace hz := hz.up hS
      replace HW := HW.trans hS
      clear hS
      refine tree_alt (fun K hK => ?_) ?_
      ·
        go_wp2_with fail
        refine (bytesClone_n (hr15.up HW) (by have := HBL.out; omega) HBL.out.symm).mono ?_
        rintro en wc ⟨v, rfl, hv16, hS⟩
        replace hv16 := hv16.mono (show w.heap.size ≤ _ from (hu2.trans HW).size)
        obtain ⟨B16, c16, rfl, _⟩ := hv16.rd
        go_wp2_with fail
        refine ⟨HW.trans hS, ?_⟩
        (try replace hb5 := hb5.up hS)
        replace hz := hz.up hS
        replace HW := HW.trans hS
        clear hS
        iterate 1 (refine tree_step rfl (fun K hK => ?_); go_big_quiet_step ((intro _; rfl)); refine wpQuiet_nil (hK _ ?_); clear hK K)
        refine tree_do (fun K hK => ?_)
        go_wp2_with fail
        have hS := (Up.refl wc).alloc (.cells #[.int .i64 0, .int .i64 0, .int .i64 0, .slice none 0 0] 67)
        have hb5 := Blk.new wc 67 #[.int .i64 0, .int .i64 0, .int .i64 0, .slice none 0 0]
        have hG5 : w2.heap.size ≤ wc.heap.size := HW.size
        refine ⟨HW.trans hS, ?_⟩
        (try replace hv16 := hv16.up hS)
        replace hz := hz.up hS
        replace HW := HW.trans hS
        clear hS
        generalize (wc.alloc (.cells #[.int .i64 0, .int .i64 0, .int .i64 0, .slice none 0 0] 67)) = wn at *
        generalize wc.heap.size = G5 at *
        generalize wn = wc at *
        have v0 := hb5.cell 0
        have v1 := hb5.cell 1
        have v2 := hb5.cell 2
        have v3 := hb5.cell 3
        simp only [List.getElem?_toArray, List.getElem?_cons_succ, List.getElem?_cons_zero] at v0 v1 v2 v3
        have u0 := hb5.frozen 0
        have u1 := hb5.frozen 1
        have u2 := hb5.frozen 2
        have u3 := hb5.frozen 3
        refine tree_do (fun K hK => ?_)
        go_wp2_with fail
        refine ⟨trivial, ?_⟩
        refine tree_nil ?_
        have hne : ∀ b', (Value.slice B16 b.length c16).ownBlock = some b' → ¬ b' = G5 := fun b' e e2 => by
          subst e2
          have h3 := hv16.typed _ e
          have h4 : Typed wc 67 b' := ⟨_, _, hb5.out⟩
          exact absurd (h3.ne h4) (by decide)
        have hx := UpX.four wc G5 (.int .i64 x1) (.int .i64 E) (.int .i64 P) (.slice B16 b.length c16)
        replace hv16 := hv16.upx hx hne
        replace hz := hz.upx hx (Nat.ne_of_lt (Nat.lt_of_lt_of_le hzlt hG5))
        have HU : Up w _ := (hu2.trans HW).thenx hx fun i hi e => by have := hu2.size; omega
        replace hb5 := blk_store4 hb5 (.int .i64 x1) (.int .i64 E) (.int .i64 P) (.slice B16 b.length c16)
        clear v0 v1 v2 v3 u0 u1 u2 u3 hne hx
        generalize ((((wc.setCell ⟨G5, 0, none⟩ (.int .i64 x1)).setCell ⟨G5, 1, none⟩ (.int .i64 E)).setCell ⟨G5, 2, none⟩ (.int .i64 P)).setCell ⟨G5, 3, none⟩ (.slice B16 b.length c16)) = wd at *
        have v0 := hb5.cell 0
        have v1 := hb5.cell 1
        have v2 := hb5.cell 2
        have v3 := hb5.cell 3
        simp only [List.getElem?_toArray, List.getElem?_cons_succ, List.getElem?_cons_zero] at v0 v1 v2 v3
        obtain ⟨B17, c17, e17, hr17⟩ := hv16.rd
        simp only [Value.slice.injEq, true_and] at e17
        obtain ⟨rfl, rfl⟩ := e17
        have HENC := Lib.hid (frmEncode_all x1 E P B16 c16 b wd hr17)
        clear hr17
        rw [if_pos hck, hck] at HENC
        go_wp2_with fail
        refine HENC.out.mono ?_
        rintro en we hp
        obtain ⟨v, rfl, hva, hS⟩ := hp.out
        clear hp HENC
        obtain ⟨B44, c44, rfl, hr44⟩ := hva.rd
        replace hb5 := hb5.up hS
        replace hz := hz.up hS
        replace hv16 := hv16.up hS
        replace HU := HU.trans hS
        clear hS v0 v1 v2 v3
        have HEQ := Lib.hid (bytesEqual_n (hr44) (h1.up HU) rfl HL.out.symm)
        rw [decide_eq_false hne0] at HEQ
        have HFL := Lib.hid (show (frmEnc x1 E P b).length = (frmEnc x1 E P b).length from rfl)
        have z0 := hz.cell 0
        have z1 := hz.cell 1
        have z2 := hz.cell 2
        have z3 := hz.cell 3
        simp only [List.getElem?_toArray, List.getElem?_cons_succ, List.getElem?_cons_zero] at z0 z1 z2 z3
        have y0 := hz.frozen 0
        have y1 := hz.frozen 1
        have y2 := hz.frozen 2
        have y3 := hz.frozen 3
        have v0 := hb5.cell 0
        have v1 := hb5.cell 1
        have v2 := hb5.cell 2
        have v3 := hb5.cell 3
        simp only [List.getElem?_toArray, List.getElem?_cons_succ, List.getElem?_cons_zero] at v0 v1 v2 v3
        go_wp2_with fail
        refine HEQ.out.mono ?_
        rintro en wf ⟨rfl, rfl⟩
        go_wp2_with fail
        exact decRet_bad (p := 2) (u := 3) (by kernel_rfl) rfl rfl (blk_store4 hz _ _ _ _) (up_store4 HU (Nat.le_refl _) _ _ _ _)
      refine tree_do (fun K hK => ?_)
      go_wp2_with fail
      have hS := (Up.refl wc).alloc (.cells #[.int .i64 0, .int .i64 0, .int .i64 0, .slice none 0 0] 67)
      have hb5 := Blk.new wc 67 #[.int .i64 0, .int .i64 0, .int .i64 0, .slice none 0 0]
      have hG5 : w2.heap.size ≤ wc.heap.size := HW.size
      refine ⟨HW.trans hS, ?_⟩
      (try replace hv16 := hv16.up hS)
      replace hz := hz.up hS
      replace HW := HW.trans hS
      clear hS
      generalize (wc.alloc (.cells #[.int .i64 0, .int .i64 0, .int .i64 0, .slice none 0 0] 67)) = wn at *
      generalize wc.heap.size = G5 at *
      generalize wn = wc at *
      refine tree_do (fun K hK => ?_)
      go_wp2_with fail
      refine (bytesClone_n (hr15.up HW) (by have := HBL.out; omega) HBL.out.symm).mono ?_
      rintro en wc ⟨v, rfl, hv16, hS⟩
      replace hv16 := hv16.mono (show w.heap.size ≤ _ from (hu2.trans HW).size)
      obtain ⟨B16, c16, rfl, _⟩ := hv16.rd
      go_wp2_with fail
      refine ⟨HW.trans hS, ?_⟩
      (try replace hb5 := hb5.up hS)
      replace hz := hz.up hS
      replace HW := HW.trans hS
      clear hS
      iterate 1 (refine tree_step rfl (fun K hK => ?_); go_big_quiet_step ((intro _; rfl)); refine wpQuiet_nil (hK _ ?_); clear hK K)
      have v0 := hb5.cell 0
      have v1 := hb5.cell 1
      have v2 := hb5.cell 2
      have v3 := hb5.cell 3
      simp only [List.getElem?_toArray, List.getElem?_cons_succ, List.getElem?_cons_zero] at v0 v1 v2 v3
      have u0 := hb5.frozen 0
      have u1 := hb5.frozen 1
      have u2 := hb5.frozen 2
      have u3 := hb5.frozen 3
      refine tree_do (fun K hK => ?_)
      go_wp2_with fail
      refine ⟨trivial, ?_⟩
      refine tree_nil ?_
      have hne : ∀ b', (Value.slice B16 b.length c16).ownBlock = some b' → ¬ b' = G5 := fun b' e e2 => by
        subst e2
        have h3 := hv16.typed _ e
        have h4 : Typed wc 67 b' := ⟨_, _, hb5.out⟩
        exact absurd (h3.ne h4) (by decide)
      have hx := UpX.four wc G5 (.int .i64 x1) (.int .i64 E) (.int .i64 P) (.slice B16 b.length c16)
      replace hv16 := hv16.upx hx hne
      replace hz := hz.upx hx (Nat.ne_of_lt (Nat.lt_of_lt_of_le hzlt hG5))
      have HU : Up w _ := (hu2.trans HW).thenx hx fun i hi e => by have := hu2.size; omega
      replace hb5 := blk_store4 hb5 (.int .i64 x1) (.int .i64 E) (.int .i64 P) (.slice B16 b.length c16)
      clear v0 v1 v2 v3 u0 u1 u2 u3 hne hx
      generalize ((((wc.setCell ⟨G5, 0, none⟩ (.int .i64 x1)).setCell ⟨G5, 1, none⟩ (.int .i64 E)).setCell ⟨G5, 2, none⟩ (.int .i64 P)).setCell ⟨G5, 3, none⟩ (.slice B16 b.length c16)) = wd at *
      have v0 := hb5.cell 0
      have v1 := hb5.cell 1
      have v2 := hb5.cell 2
      have v3 := hb5.cell 3
      simp only [List.getElem?_toArray, List.getElem?_cons_succ, List.getElem?_cons_zero] at v0 v1 v2 v3
      obtain ⟨B17, c17, e17, hr17⟩ := hv16.rd
      simp only [Value.slice.injEq, true_and] at e17
      obtain ⟨rfl, rfl⟩ := e17
      have HENC := Lib.hid (frmEncode_all x1 E P B16 c16 b wd hr17)
      clear hr17
      rw [if_pos hck, hck] at HENC
      go_wp2_with fail
      refine HENC.out.mono ?_
      rintro en we hp
      obtain ⟨v, rfl, hva, hS⟩ := hp.out
      clear hp HENC
      obtain ⟨B44, c44, rfl, hr44⟩ := hva.rd
      replace hb5 := hb5.up hS
      replace hz := hz.up hS
      replace hv16 := hv16.up hS
      replace HU := HU.trans hS
      clear hS v0 v1 v2 v3
      have HEQ := Lib.hid (bytesEqual_n (hr44) (h1.up HU) rfl HL.out.symm)
      rw [decide_eq_false hne0] at HEQ
      have HFL := Lib.hid (show (frmEnc x1 E P b).length = (frmEnc x1 E P b).length from rfl)
      have z0 := hz.cell 0
      have z1 := hz.cell 1
      have z2 := hz.cell 2
      have z3 := hz.cell 3
      simp only [List.getElem?_toArray, List.getElem?_cons_succ, List.getElem?_cons_zero] at z0 z1 z2 z3
      have y0 := hz.frozen 0
      have y1 := hz.frozen 1
      have y2 := hz.frozen 2
      have y3 := hz.frozen 3
      have v0 := hb5.cell 0
      have v1 := hb5.cell 1
      have v2 := hb5.cell 2
      have v3 := hb5.cell 3
      simp only [List.getElem?_toArray, List.getElem?_cons_succ, List.getElem?_cons_zero] at v0 v1 v2 v3
      go_wp2_with fail
      refine HEQ.out.mono ?_
      rintro en wf ⟨rfl, rfl⟩
      go_wp2_with fail
      exact decRet_bad (p := 2) (u := 3) (by kernel_rfl) rfl rfl (blk_store4 hz _ _ _ _) (up_store4 HU (Nat.le_refl _) _ _ _ _)
    refine tree_do (fun K hK => ?_)
    go_wp2_with fail
    have hS := (Up.refl wc).alloc (.cells #[.int .i64 0, .int .i64 0, .int .i64 0, .slice none 0 0] 67)
    have hb5 := Blk.new wc 67 #[.int .i64 0, .int .i64 0, .int .i64 0, .slice none 0 0]
    have hG5 : w2.heap.size ≤ wc.heap.size := HW.size
    refine ⟨HW.trans hS, ?_⟩
    (try replace hv16 := hv16.up hS)
    replace hz := hz.up hS
    replace HW := HW.trans hS
    clear hS
    generalize (wc.alloc (.cells #[.int .i64 0, .int .i64 0, .int .i64 0, .slice none 0 0] 67)) = wn at *
    generalize wc.heap.size = G5 at *
    generalize wn = wc at *
    refine tree_do (fun K hK => ?_)
    go_wp2_with fail
    refine (frmNum2_calls (l := l) (lo := 6) (hr8.up HW) rfl (by have := HL.out; omega) rfl).mono ?_
    rw [HP.out]
    rintro en wc ⟨rfl, hS⟩
    go_wp2_with fail
    refine ⟨HW.trans hS, ?_⟩
    (try replace hb5 := hb5.up hS)
    (try replace hv16 := hv16.up hS)
    replace hz := hz.up hS
    replace HW := HW.trans hS
    clear hS
    refine tree_do (fun K hK => ?_)
    go_wp2_with fail
    refine (bytesClone_n (hr15.up HW) (by have := HBL.out; omega) HBL.out.symm).mono ?_
    rintro en wc ⟨v, rfl, hv16, hS⟩
    replace hv16 := hv16.mono (show w.heap.size ≤ _ from (hu2.trans HW).size)
    obtain ⟨B16, c16, rfl, _⟩ := hv16.rd
    go_wp2_with fail
    refine ⟨HW.trans hS, ?_⟩
    (try replace hb5 := hb5.up hS)
    replace hz := hz.up hS
    replace HW := HW.trans hS
    clear hS
    iterate 1 (refine tree_step rfl (fun K hK => ?_); go_big_quiet_step ((intro _; rfl)); refine wpQuiet_nil (hK _ ?_); clear hK K)
    have v0 := hb5.cell 0
    have v1 := hb5.cell 1
    have v2 := hb5.cell 2
    have v3 := hb5.cell 3
    simp only [List.getElem?_toArray, List.getElem?_cons_succ, List.getElem?_cons_zero] at v0 v1 v2 v3
    have u0 := hb5.frozen 0
    have u1 := hb5.frozen 1
    have u2 := hb5.frozen 2
    have u3 := hb5.frozen 3
    refine tree_do (fun K hK => ?_)
    go_wp2_with fail
    refine ⟨trivial, ?_⟩
    refine tree_nil ?_
    have hne : ∀ b', (Value.slice B16 b.length c16).ownBlock = some b' → ¬ b' = G5 := fun b' e e2 => by
      subst e2
      have h3 := hv16.typed _ e
      have h4 : Typed wc 67 b' := ⟨_, _, hb5.out⟩
      exact absurd (h3.ne h4) (by decide)
    have hx := UpX.four wc G5 (.int .i64 x1) (.int .i64 E) (.int .i64 P) (.slice B16 b.length c16)
    replace hv16 := hv16.upx hx hne
    replace hz := hz.upx hx (Nat.ne_of_lt (Nat.lt_of_lt_of_le hzlt hG5))
    have HU : Up w _ := (hu2.trans HW).thenx hx fun i hi e => by have := hu2.size; omega
    replace hb5 := blk_store4 hb5 (.int .i64 x1) (.int .i64 E) (.int .i64 P) (.slice B16 b.length c16)
    clear v0 v1 v2 v3 u0 u1 u2 u3 hne hx
    generalize ((((wc.setCell ⟨G5, 0, none⟩ (.int .i64 x1)).setCell ⟨G5, 1, none⟩ (.int .i64 E)).setCell ⟨G5, 2, none⟩ (.int .i64 P)).setCell ⟨G5, 3, none⟩ (.slice B16 b.length c16)) = wd at *
    have v0 := hb5.cell 0
    have v1 := hb5.cell 1
    have v2 := hb5.cell 2
    have v3 := hb5.cell 3
    simp only [List.getElem?_toArray, List.getElem?_cons_succ, List.getElem?_cons_zero] at v0 v1 v2 v3
    obtain ⟨B17, c17, e17, hr17⟩ := hv16.rd
    simp only [Value.slice.injEq, true_and] at e17
    obtain ⟨rfl, rfl⟩ := e17
    have HENC := Lib.hid (frmEncode_all x1 E P B16 c16 b wd hr17)
    clear hr17
    rw [if_pos hck, hck] at HENC
    go_wp2_with fail
    refine HENC.out.mono ?_
    rintro en we hp
    obtain ⟨v, rfl, hva, hS⟩ := hp.out
    clear hp HENC
    obtain ⟨B44, c44, rfl, hr44⟩ := hva.rd
    replace hb5 := hb5.up hS
    replace hz := hz.up hS
    replace hv16 := hv16.up hS
    replace HU := HU.trans hS
    clear hS v0 v1 v2 v3
    have HEQ := Lib.hid (bytesEqual_n (hr44) (h1.up HU) rfl HL.out.symm)
    rw [decide_eq_false hne0] at HEQ
    have HFL := Lib.hid (show (frmEnc x1 E P b).length = (frmEnc x1 E P b).length from rfl)
    have z0 := hz.cell 0
    have z1 := hz.cell 1
    have z2 := hz.cell 2
    have z3 := hz.cell 3
    simp only [List.getElem?_toArray, List.getElem?_cons_succ, List.getElem?_cons_zero] at z0 z1 z2 z3
    have y0 := hz.frozen 0
    have y1 := hz.frozen 1
    have y2 := hz.frozen 2
    have y3 := hz.frozen 3
    have v0 := hb5.cell 0
    have v1 := hb5.cell 1
    have v2 := hb5.cell 2
    have v3 := hb5.cell 3
    simp only [List.getElem?_toArray, List.getElem?_cons_succ, List.getElem?_cons_zero] at v0 v1 v2 v3
    go_wp2_with fail
    refine HEQ.out.mono ?_
    rintro en wf ⟨rfl, rfl⟩
    go_wp2_with fail
    exact decRet_bad (p := 2) (u := 3) (by kernel_rfl) rfl rfl (blk_store4 hz _ _ _ _) (up_store4 HU (Nat.le_refl _) _ _ _ _)
  refine tree_do (fun K hK => ?_)
  go_wp2_with fail
  have hS := (Up.refl wc).alloc (.cells #[.int .i64 0, .int .i64 0, .int .i64 0, .slice none 0 0] 67)
  have hb5 := Blk.new wc 67 #[.int .i64 0, .int .i64 0, .int .i64 0, .slice none 0 0]
  have hG5 : w2.heap.size ≤ wc.heap.size := HW.size
  refine ⟨HW.trans hS, ?_⟩
  (try replace hv16 := hv16.up hS)
  replace hz := hz.up hS
  replace HW := HW.trans hS
  clear hS
  generalize (wc.alloc (.cells #[.int .i64 0, .int .i64 0, .int .i64 0, .slice none 0 0] 67)) = wn at *
  generalize wc.heap.size = G5 at *
  generalize wn = wc at *
  refine tree_do (fun K hK => ?_)
  go_wp2_with fail
  refine (frmNum4_calls (l := l) (lo := 2) (hr5.up HW) rfl (by have := HL.out; omega) rfl).mono ?_
  rw [HE.out]
  rintro en wc ⟨rfl, hS⟩
  go_wp2_with fail
  refine ⟨HW.trans hS, ?_⟩
  (try replace hb5 := hb5.up hS)
  (try replace hv16 := hv16.up hS)
  replace hz := hz.up hS
  replace HW := HW.trans hS
  clear hS
  refine tree_do (fun K hK => ?_)
  go_wp2_with fail
  refine (frmNum2_calls (l := l) (lo := 6) (hr8.up HW) rfl (by have := HL.out; omega) rfl).mono ?_
  rw [HP.out]
  rintro en wc ⟨rfl, hS⟩
  go_wp2_with fail
  refine ⟨HW.trans hS, ?_⟩
  (try replace hb5 := hb5.up hS)
  (try replace hv16 := hv16.up hS)
  replace hz := hz.up hS
  replace HW := HW.trans hS
  clear hS
  refine tree_do (fun K hK => ?_)
  go_wp2_with fail
  refine (bytesClone_n (hr15.up HW) (by have := HBL.out; omega) HBL.out.symm).mono ?_
  rintro en wc ⟨v, rfl, hv16, hS⟩
  replace hv16 := hv16.mono (show w.heap.size ≤ _ from (hu2.trans HW).size)
  obtain ⟨B16, c16, rfl, _⟩ := hv16.rd
  go_wp2_with fail
  refine ⟨HW.trans hS, ?_⟩
  (try replace hb5 := hb5.up hS)
  replace hz := hz.up hS
  replace HW := HW.trans hS
  clear hS
  iterate 1 (refine tree_step rfl (fun K hK => ?_); go_big_quiet_step ((intro _; rfl)); refine wpQuiet_nil (hK _ ?_); clear hK K)
  have v0 := hb5.cell 0
  have v1 := hb5.cell 1
  have v2 := hb5.cell 2
  have v3 := hb5.cell 3
  simp only [List.getElem?_toArray, List.getElem?_cons_succ, List.getElem?_cons_zero] at v0 v1 v2 v3
  have u0 := hb5.frozen 0
  have u1 := hb5.frozen 1
  have u2 := hb5.frozen 2
  have u3 := hb5.frozen 3
  refine tree_do (fun K hK => ?_)
  go_wp2_with fail
  refine ⟨trivial, ?_⟩
  refine tree_nil ?_
  have hne : ∀ b', (Value.slice B16 b.length c16).ownBlock = some b' → ¬ b' = G5 := fun b' e e2 => by
    subst e2
    have h3 := hv16.typed _ e
    have h4 : Typed wc 67 b' := ⟨_, _, hb5.out⟩
    exact absurd (h3.ne h4) (by decide)
  have hx := UpX.four wc G5 (.int .i64 x1) (.int .i64 E) (.int .i64 P) (.slice B16 b.length c16)
  replace hv16 := hv16.upx hx hne
  replace hz := hz.upx hx (Nat.ne_of_lt (Nat.lt_of_lt_of_le hzlt hG5))
  have HU : Up w _ := (hu2.trans HW).thenx hx fun i hi e => by have := hu2.size; omega
  replace hb5 := blk_store4 hb5 (.int .i64 x1) (.int .i64 E) (.int .i64 P) (.slice B16 b.length c16)
  clear v0 v1 v2 v3 u0 u1 u2 u3 hne hx
  generalize ((((wc.setCell ⟨G5, 0, none⟩ (.int .i64 x1)).setCell ⟨G5, 1, none⟩ (.int .i64 E)).setCell ⟨G5, 2, none⟩ (.int .i64 P)).setCell ⟨G5, 3, none⟩ (.slice B16 b.length c16)) = wd at *
  have v0 := hb5.cell 0
  have v1 := hb5.cell 1
  have v2 := hb5.cell 2
  have v3 := hb5.cell 3
  simp only [List.getElem?_toArray, List.getElem?_cons_succ, List.getElem?_cons_zero] at v0 v1 v2 v3
  obtain ⟨B17, c17, e17, hr17⟩ := hv16.rd
  simp only [Value.slice.injEq, true_and] at e17
  obtain ⟨rfl, rfl⟩ := e17
  have HENC := Lib.hid (frmEncode_all x1 E P B16 c16 b wd hr17)
  clear hr17
  rw [if_pos hck, hck] at HENC
  go_wp2_with fail
  refine HENC.out.mono ?_
  rintro en we hp
  obtain ⟨v, rfl, hva, hS⟩ := hp.out
  clear hp HENC
  obtain ⟨B44, c44, rfl, hr44⟩ := hva.rd
  replace hb5 := hb5.up hS
  replace hz := hz.up hS
  replace hv16 := hv16.up hS
  replace HU := HU.trans hS
  clear hS v0 v1 v2 v3
  have HEQ := Lib.hid (bytesEqual_n (hr44) (h1.up HU) rfl HL.out.symm)
  rw [decide_eq_false hne0] at HEQ
  have HFL := Lib.hid (show (frmEnc x1 E P b).length = (frmEnc x1 E P b).length from rfl)
  have z0 := hz.cell 0
  have z1 := hz.cell 1
  have z2 := hz.cell 2
  have z3 := hz.cell 3
  simp only [List.getElem?_toArray, List.getElem?_cons_succ, List.getElem?_cons_zero] at z0 z1 z2 z3
  have y0 := hz.frozen 0
  have y1 := hz.frozen 1
  have y2 := hz.frozen 2
  have y3 := hz.frozen 3
  have v0 := hb5.cell 0
  have v1 := hb5.cell 1
  have v2 := hb5.cell 2
  have v3 := hb5.cell 3
  simp only [List.getElem?_toArray, List.getElem?_cons_succ, List.getElem?_cons_zero] at v0 v1 v2 v3
  go_wp2_with fail
  refine HEQ.out.mono ?_
  rintro en wf ⟨rfl, rfl⟩
  go_wp2_with fail
  exact decRet_bad (p := 2) (u := 3) (by kernel_rfl) rfl rfl (blk_store4 hz _ _ _ _) (up_store4 HU (Nat.le_refl _) _ _ _ _)
end Go.Proofs.Ytehdigkjbobndaa
