/- Layer 3: keep. -/
import Derived.Test.YtehdigkjbobndaaDevS
import Derived.Test.YtehdigkjbobndaaTreeS
namespace Go.Proofs.Ytehdigkjbobndaa
open Go.RowKit
set_option maxRecDepth 100000

/-- A page's versions are dropped. -/
theorem DevX.dropped {w w' : World} {g : Nat} {S : Nat → Prop} {s : DSt} {gl cap bm n : Nat} {f : Int → Option Value} (h : DevX w g S s gl cap bm n f) (x : Int) (hu : UpX (fun b => b = bm) w w') (hm : MapI Try.prog 3 w' bm n (fun y => if y = x then none else f y)) :
    DevX w' g S { s with wt := fun q => if q = x then [] else s.wt q } gl cap bm n (fun y => if y = x then none else f y) := by
  have hok := h.ok
  refine ⟨?_, h.laid.upx hu (fun b hb e => ?_), hm, h.nle, ⟨fun p => ?_, fun p q u v hu hv => ?_⟩, h.sg, h.sgl, h.sbm, h.ne1, h.ne2, h.ne3, fun b hb => Nat.lt_of_lt_of_le (h.lt b hb) hu.size, ⟨hok.len, hok.one, hok.most, fun p l hl => ?_, fun p hp => ?_, hok.left, fun p => ?_⟩⟩
  · have := h.b.upx hu h.ne2
    simpa [devCells] using this
  · simp only [Value.ownBlock, Option.some.injEq] at hb
    exact h.ne3 (hb.trans e)
  · by_cases e : p = x
    · exact .inl ⟨if_pos e, if_pos e⟩
    · simp only [if_neg e]
      refine (h.wts.at_ p).imp id fun ⟨v, h1, h2, h3⟩ => ⟨v, h1, h2, h3.upx hu (fun b hb e => (h.spine h1 b hb).2.2 e) fun b _ _ ht e => (h.content ht).2.1 e⟩
  · split at hu
    · cases hu
    · split at hv
      · cases hv
      · exact h.wts.sep p q u v hu hv
  · simp only at hl
    split at hl
    · cases hl
    · exact hok.wlen p l hl
  · simp only at hp
    split at hp
    · exact absurd rfl hp
    · exact hok.win p hp
  · show (if p = x then [] else s.wt p).length ≤ s.wr
    split
    · simp
    · exact hok.wmax p
theorem DevX.rdl {w : World} {g : Nat} {S : Nat → Prop} {s : DSt} {gl cap bm n : Nat} {f : Int → Option Value} (h : DevX w g S s gl cap bm n f) {x : Int} {A : Option Addr} {m c : Nat} (hf : f x = some (.slice A m c)) : RdL w .u8 A c (s.wt x) := by
  rcases h.wts.at_ x with ⟨h1, _⟩ | ⟨v', h1, _, h3⟩
  · rw [hf] at h1; cases h1
  · rw [hf] at h1
    obtain rfl := Option.some.inj h1
    obtain ⟨A', c', e, _, h5⟩ := h3.slice
    injection e with e1 _ e3
    subst e1 e3
    exact h5
/-- keep. -/
def keepS (s : DSt) (k : KeepS) : DSt := { s with pg := s.pg.set k.page.toNat (crashPage k (s.wt k.page) (s.pg.getD k.page.toNat [])), wt := fun q => if q = k.page then [] else s.wt q }
structure KeepIn (k : KeepS) : Prop where
  page : InK .i64 k.page
  n : InK .i64 k.n
  part : InK .i64 k.part
abbrev keepV3 (k : KeepS) : Value := .agg #[.int .i64 k.page, .int .i64 k.n, .int .i64 k.part]
set_option maxHeartbeats 4000000 in
theorem devkeep_calls (g : Nat) (S : Nat → Prop) (s : DSt) (k : KeepS) (w : World) (h : DevI w g S s) (hk : KeepIn k) (hw : s.wt k.page ≠ []) :
    Calls Try.prog 58 #[.pointer (some ⟨g, 0, none⟩), keepV3 k] w fun e w' => e = .returned (.int .i64 (kept k (s.wt k.page).length : Nat)) ∧ DevI w' g S (keepS s k) ∧ UpX S w w' := by
  obtain ⟨kp, kn, kq⟩ := k
  obtain ⟨gl, cap, bm, n, f, hd⟩ := h.out
  have hlt := hd.lt
  have hin := hd.ok.win kp hw
  obtain ⟨i, rfl⟩ := Int.eq_ofNat_of_zero_le hin.1
  have hil : i < s.pg.length := by omega
  have hmost := hd.ok.most
  have hua : Up w (w.alloc (.cells #[.int .i64 (i : Int), .int .i64 kn, .int .i64 kq] 104)) := (Up.refl w).alloc _
  have hB := Blk.new w 104 #[.int .i64 (i : Int), .int .i64 kn, .int .i64 kq]
  have hd0 := hd.up hua
  have HLT := Lib.hid hlt
  have HIL := Lib.hid hil
  clear h hd hin hlt
  go_enter Try.func58, Try.ntmps58
  go_wp2_with fail
  generalize hw1 : (w.alloc (.cells #[Value.int .i64 (i : Int), .int .i64 kn, .int .i64 kq] 104)) = w1 at *
  have hrl := hB.lt
  have HRS := Lib.hid (show ∀ b, S b → b ≠ w.heap.size from fun b hb e => by have := HLT.out b hb; omega)
  generalize w.heap.size = r at *
  clear hw1
  have c0 : w1.cell? ⟨r, 0, none⟩ = some (.int .i64 (i : Int)) := hB.cell 0
  have c1 : w1.cell? ⟨r, 1, none⟩ = some (.int .i64 kn) := hB.cell 1
  have c2 : w1.cell? ⟨r, 2, none⟩ = some (.int .i64 kq) := hB.cell 2
  have g7 : w1.cell? ⟨g, 7, none⟩ = some (.map (some bm)) := hd0.b.cell 7
  have hik : InK .i64 (i : Int) := hk.page
  have hw9 : ∃ A c, f (i : Int) = some (.slice A (s.wt i).length c) ∧ (s.wt i).length ≤ c ∧ RdL w1 .u8 A c (s.wt i) := by
    rcases hd0.wts.at_ (i : Int) with ⟨_, h2⟩ | ⟨v', h1, h2, h3⟩
    · exact absurd h2 hw
    · obtain ⟨A, c, rfl, h4, h5⟩ := h3.slice
      exact ⟨A, c, h1, h4, h5⟩
  obtain ⟨A, c, hfi, hlc, hrd⟩ := hw9
  have hlk : ∀ w', Up w1 w' → (Instr.lookup 91 (.map (some bm)) (.int .i64 (i : Int)) false).run Try.prog w' = .ok (.slice A (s.wt i).length c) w' := fun w' hu => by
    have := (hd0.up hu).look (i : Int) hik
    rw [hfi] at this
    exact this
  have hm0 : 0 < (s.wt i).length := List.length_pos_iff.2 hw
  have hmx := hrd.mx
  have HK := Lib.hid (show kept ⟨i, kn, kq⟩ (s.wt i).length = min (max kn 0).toNat (s.wt i).length from rfl)
  generalize hK : kept ⟨i, kn, kq⟩ (s.wt i).length = K at *
  generalize hm : (s.wt i).length = m at *
  have hKm : min (max kn 0) (m : Int) = (K : Int) := by have := HK.out; omega
  have hKle : K ≤ m := by have := HK.out; omega
  refine wp_region_tree (fun w9 => Up w1 w9) (.quiet 0 (.quiet 1 (.quiet 2 (.quiet 3 (.quiet 4 (.quiet 5 (.quiet 6 (.quiet 7 (.nil))))))))) (by kernel_rfl) (by kernel_rfl) rfl (by kernel_rfl) (by kernel_rfl) ((Up.refl w1).drew) ?_
  simp only [pickT, List.getElem?_cons_succ, List.getElem?_cons_zero, Option.getD_some]
  repeat (refine tree_step rfl (fun K hK => ?_); go_big_quiet_step ((intro _; rfl)); refine wpQuiet_nil (hK _ ?_); clear hK K)
  refine tree_load ⟨g, 7, none⟩ (.map (some bm)) (by kernel_rfl) rfl (by kernel_rfl) (fun w' h => h.cell g7) ?_
  dsimp only [Act.put]
  simp only [List.setIfInBounds_toArray, List.set_cons_zero, List.set_cons_succ]
  repeat (refine tree_step rfl (fun K hK => ?_); go_big_quiet_step ((intro _; rfl)); refine wpQuiet_nil (hK _ ?_); clear hK K)
  refine tree_load ⟨r, 0, none⟩ (.int .i64 (i : Int)) (by kernel_rfl) rfl (by kernel_rfl) (fun w' h => h.cell c0) ?_
  dsimp only [Act.put]
  simp only [List.setIfInBounds_toArray, List.set_cons_zero, List.set_cons_succ]
  repeat (refine tree_step rfl (fun K hK => ?_); go_big_quiet_step ((intro _; rfl)); refine wpQuiet_nil (hK _ ?_); clear hK K)
  refine tree_lookup bm (i : Int) (.slice A m c) (by kernel_rfl) rfl rfl hlk ?_
  dsimp only [Act.put]
  simp only [List.setIfInBounds_toArray, List.set_cons_zero, List.set_cons_succ]
  repeat (refine tree_step rfl (fun K hK => ?_); go_big_quiet_step ((intro _; rfl)); refine wpQuiet_nil (hK _ ?_); clear hK K)
  refine tree_nil ?_
  have hud : Up w1 w1.drew := (Up.refl w1).drew
  have hd1 := hd0.up hud
  have k0 : w1.drew.cell? ⟨r, 0, none⟩ = some (.int .i64 (i : Int)) := c0
  have k1 : w1.drew.cell? ⟨r, 1, none⟩ = some (.int .i64 kn) := c1
  have k2 : w1.drew.cell? ⟨r, 2, none⟩ = some (.int .i64 kq) := c2
  have HU := Lib.hid (hua.trans hud)
  clear hd0 c0 c1 c2 g7 hlk hrd hua hB hud
  generalize w1.drew = w2 at *
  have HKM := Lib.hid hKm
  clear hKm
  go_upto_region 2 with fail
  go_cut [6] (fun v wx => v = .int .i64 K ∧ w2 = wx)
  case first =>
    have HKV := HKM.out
    by_cases h1 : 0 ≤ kn
    · by_cases h2 : (m : Int) < kn
      · have HE := Lib.hid (show (m : Int) = (K : Int) by omega)
        clear HKV
        go_wp2_with fail
        go_meet
        exact ⟨by rw [HE.out], rfl⟩
      · have HE := Lib.hid (show kn = (K : Int) by omega)
        clear HKV
        go_wp2_with fail
        go_meet
        exact ⟨by rw [HE.out], rfl⟩
    · have HE := Lib.hid (show 0 = (K : Int) by omega)
      clear HKV
      go_wp2_with fail
      go_meet
      exact ⟨by rw [← HE.out], rfl⟩
  case rest =>
    obtain ⟨rfl, rfl⟩ := hcut
    obtain ⟨q1, hq1⟩ : ∃ q1, q1 = (if 0 < K then (s.wt i).getD (K - 1) [] else s.pg.getD i []) := ⟨_, rfl⟩
    have HQ1 := Lib.hid hq1
    have HM := Lib.hid hm
    clear hq1 HKM k1 hm
    go_upto_if 21 with fail
    go_cut [] (fun wx => DevX wx g S { s with pg := s.pg.set i q1 } gl cap bm n f ∧ UpX S w2 wx)
    case first =>
      by_cases hK0 : K = 0
      · have HE := Lib.hid (show s.pg.set i q1 = s.pg by
          rw [HQ1.out, if_neg (by omega), List.getD_eq_getElem?_getD, List.getElem?_eq_getElem HIL.out]
          simp)
        subst hK0
        clear HK hK
        go_wp2_with fail
        go_meet
        exact ⟨by rw [HE.out]; exact hd1, UpX.refl _ _⟩
      · have hK1 : 0 < K := by omega
        have hKb : (0 : Int) < (K : Int) := by omega
        obtain ⟨ad, l, A', c', rfl, hcl, hrl2, hlg⟩ := (hd1.rdl hfi).get (K - 1) (by rw [HM.out]; omega)
        have hl256 : l.length = 256 := by
          have h9 := hlg.out
          rw [List.getD_eq_getElem?_getD, List.getElem?_eq_getElem (by rw [HM.out]; omega)] at h9
          rw [← h9]
          exact hd1.ok.wlen i _ (List.getElem_mem _)
        have HQ := Lib.hid (show q1 = l by rw [HQ1.out, if_pos hK1]; exact hlg.out)
        rw [hl256] at hcl
        have HL256 := Lib.hid hl256
        have hKm1 : ((K : Int) - 1).toNat = K - 1 := by omega
        have HP := Lib.hid fun w9 hd9 => devPage_calls g S s gl cap bm n f i w9 hd9 HIL.out
        have HD := Lib.hid hd1
        have HKL := Lib.hid hK
        clear hl256 hlg hd1 HK hK hK0
        go_wp2_with fail
        refine wp_region_tree (fun w9 => Up w2 w9) (.quiet 0 (.quiet 1 (.quiet 2 (.quiet 4 (.quiet 5 (.quiet 6 (.quiet 7 (.quiet 8 (.alt 3 (.alt 9 (.nil) (.stop)) (.stop)))))))))) (by kernel_rfl) (by kernel_rfl) rfl (by kernel_rfl) (by kernel_rfl) ((Up.refl w2).drew) ?_
        simp only [pickT, List.getElem?_cons_succ, List.getElem?_cons_zero, Option.getD_some]
        repeat (refine tree_step rfl (fun K hK => ?_); go_big_quiet_step ((intro _; rfl)); refine wpQuiet_nil (hK _ ?_); clear hK K)
        refine tree_load ⟨r, 0, none⟩ (.int .i64 (i : Int)) (by kernel_rfl) rfl (by kernel_rfl) (fun w' h => h.cell k0) ?_
        dsimp only [Act.put]
        simp only [List.setIfInBounds_toArray, List.set_cons_zero, List.set_cons_succ]
        repeat (refine tree_step rfl (fun K hK => ?_); go_big_quiet_step ((intro _; rfl)); refine wpQuiet_nil (hK _ ?_); clear hK K)
        refine tree_load (ad.add (K - 1)) (.slice A' 256 c') (by kernel_rfl) rfl (by kernel_rfl) (fun w' h => h.cell hcl) ?_
        dsimp only [Act.put]
        simp only [List.setIfInBounds_toArray, List.set_cons_zero, List.set_cons_succ]
        repeat (refine tree_step rfl (fun K hK => ?_); go_big_quiet_step ((intro _; rfl)); refine wpQuiet_nil (hK _ ?_); clear hK K)
        have hud : Up w2 w2.drew := (Up.refl w2).drew
        refine tree_do (fun K hK => ?_)
        go_wp2_with fail
        refine (HP.out w2.drew (HD.out.up hud)).mono ?_
        rintro en w8 ⟨rfl, rfl⟩
        go_wp2_with fail
        refine ⟨hud, ?_⟩
        repeat (refine tree_step rfl (fun K hK => ?_); go_big_quiet_step ((intro _; rfl)); refine wpQuiet_nil (hK _ ?_); clear hK K)
        refine tree_do (fun K hK => ?_)
        have hLL := (HD.out.up hud).laid
        have hfl := flatten_len HD.out.ok.len
        go_wp2_with (refine wpl_copyO 5 .u8 Try.underlying22 (by kernel_rfl) 0 (.slice (some ⟨gl, 0, none⟩) (256 * s.pg.length) cap) s.pg.flatten hLL gl (256 * s.pg.length) cap (256 * i) 256 (cap - 256 * i) rfl rfl A' 256 c' l rfl HL256.out.symm (hrl2.up hud) (by rw [HL256.out]; decide) (by rw [HL256.out, hfl]; omega) ?_; intro w9 ho9 hx9 hs9)
        refine ⟨trivial, ?_⟩
        refine tree_nil ?_
        have hfin := (HD.out.up hud).laidPage i HIL.out l (by rw [HL256.out]; decide) hx9 ho9
        have hgi := (HD.out.page i HIL.out).2
        rw [laid_full (by rw [HL256.out]; exact hgi.symm), ← HQ.out] at hfin
        have HFIN := Lib.hid hfin
        have HSG := Lib.hid HD.out.sgl
        clear hfin hgi hfl hLL ho9
        go_wp2_with fail
        dsimp only [Act.put]
        simp only [List.setIfInBounds_toArray, List.set_cons_zero, List.set_cons_succ]
        go_meet
        exact ⟨HFIN.out, (hud.x _).trans (hx9.mono fun b _ e => by subst e; exact HSG.out)⟩
    case rest =>
      obtain ⟨hd2, hx2⟩ := hcut
      obtain ⟨q2, hq2⟩ : ∃ q2, q2 = (if K < m then Go.Proofs.Ytehdigkjbobndaa.laid q1 0 (((s.wt i).getD K []).take (min (max kq 0) 256).toNat) else q1) := ⟨_, rfl⟩
      have HQ2 := Lib.hid hq2
      have HSUB := Lib.hid (show ∀ b, b = gl → S b from fun b e => by subst e; exact hd2.sgl)
      have c0 : wc.cell? ⟨r, 0, none⟩ = some (.int .i64 (i : Int)) := hx2.cell k0 (fun hb => HRS.out _ hb rfl)
      have c2 : wc.cell? ⟨r, 2, none⟩ = some (.int .i64 kq) := hx2.cell k2 (fun hb => HRS.out _ hb rfl)
      have HX2 := Lib.hid hx2
      have HKL := Lib.hid hK
      clear hq2 k0 k2 hd1 HK hK hx2
      go_upto_if 35 with fail
      go_cut [] (fun wx => DevX wx g S { s with pg := s.pg.set i q2 } gl cap bm n f ∧ UpX S wc wx)
      case first =>
        by_cases hlt : K < m
        · have hKb : (K : Int) < (m : Int) := by omega
          obtain ⟨ad, l, A', c', rfl, hcl, hrl2, hlg⟩ := (hd2.rdl hfi).get K (by show K < (s.wt i).length; rw [HM.out]; exact hlt)
          have hl256 : l.length = 256 := by
            have h9 := hlg.out
            simp only at h9
            rw [List.getD_eq_getElem?_getD, List.getElem?_eq_getElem (by rw [HM.out]; exact hlt)] at h9
            rw [← h9]
            exact hd2.ok.wlen i _ (List.getElem_mem _)
          rw [hl256] at hcl
          have HL256 := Lib.hid hl256
          have HP := Lib.hid fun w9 hd9 => devPage_calls g S { s with pg := s.pg.set i q1 } gl cap bm n f i w9 hd9 (by rw [List.length_set]; exact HIL.out)
          have HD := Lib.hid hd2
          have HLG := Lib.hid hlg.out
          clear hl256 hlg hd2
          go_wp2_with fail
          refine wp_region_tree (fun w9 => Up wc w9) (.quiet 0 (.quiet 1 (.quiet 2 (.quiet 4 (.quiet 5 (.quiet 6 (.quiet 7 (.quiet 8 (.quiet 9 (.quiet 10 (.quiet 11 (.quiet 12 (.alt 3 (.alt 13 (.nil) (.stop)) (.stop)))))))))))))) (by kernel_rfl) (by kernel_rfl) rfl (by kernel_rfl) (by kernel_rfl) ((Up.refl wc).drew) ?_
          simp only [pickT, List.getElem?_cons_succ, List.getElem?_cons_zero, Option.getD_some]
          repeat (refine tree_step rfl (fun K hK => ?_); go_big_quiet_step ((intro _; rfl)); refine wpQuiet_nil (hK _ ?_); clear hK K)
          refine tree_load ⟨r, 0, none⟩ (.int .i64 (i : Int)) (by kernel_rfl) rfl (by kernel_rfl) (fun w' h => h.cell c0) ?_
          dsimp only [Act.put]
          simp only [List.setIfInBounds_toArray, List.set_cons_zero, List.set_cons_succ]
          repeat (refine tree_step rfl (fun K hK => ?_); go_big_quiet_step ((intro _; rfl)); refine wpQuiet_nil (hK _ ?_); clear hK K)
          refine tree_load (ad.add K) (.slice A' 256 c') (by kernel_rfl) rfl (by kernel_rfl) (fun w' h => h.cell hcl) ?_
          dsimp only [Act.put]
          simp only [List.setIfInBounds_toArray, List.set_cons_zero, List.set_cons_succ]
          repeat (refine tree_step rfl (fun K hK => ?_); go_big_quiet_step ((intro _; rfl)); refine wpQuiet_nil (hK _ ?_); clear hK K)
          refine tree_load ⟨r, 2, none⟩ (.int .i64 kq) (by kernel_rfl) rfl (by kernel_rfl) (fun w' h => h.cell c2) ?_
          dsimp only [Act.put]
          simp only [List.setIfInBounds_toArray, List.set_cons_zero, List.set_cons_succ]
          repeat (refine tree_step rfl (fun K hK => ?_); go_big_quiet_step ((intro _; rfl)); refine wpQuiet_nil (hK _ ?_); clear hK K)
          obtain ⟨P, hP⟩ : ∃ P, P = (min (max kq 0) 256).toNat := ⟨_, rfl⟩
          have hP1 : (if 256 < (if kq < 0 then (0 : Int) else kq) then (256 : Int) else (if kq < 0 then (0 : Int) else kq)) = (P : Int) := by
            rw [hP]
            split <;> split <;> omega
          rw [hP1]
          clear hP1
          generalize (if kq < 0 then (0 : Int) else kq) = z46
          have hP2 : P ≤ 256 := by omega
          have HPQ := Lib.hid (show q2 = Go.Proofs.Ytehdigkjbobndaa.laid q1 0 (l.take P) by rw [HQ2.out, if_pos hlt, HLG.out, hP])
          have hc256 := hrl2.le
          rw [HL256.out] at hc256
          obtain ⟨A2, e2, hr2⟩ := hrl2.sliced 0 P c' (by omega) (by rw [HL256.out]; exact hP2) (by omega) (Nat.le_refl _)
          simp only [List.drop_zero, Nat.sub_zero] at hr2 e2
          refine tree_slice_hi 5 1 (.int .u8 0) A' 256 c' .i64 (P : Int) Try.underlying22 infoU8 (by kernel_rfl) rfl rfl (by omega) (by omega) ?_
          rw [show sliced A' 0 (P : Int).toNat c' 1 = .slice A2 P c' from e2]
          clear e2 hP
          dsimp only [Act.put]
          simp only [List.setIfInBounds_toArray, List.set_cons_zero, List.set_cons_succ]
          repeat (refine tree_step rfl (fun K hK => ?_); go_big_quiet_step ((intro _; rfl)); refine wpQuiet_nil (hK _ ?_); clear hK K)
          have hud : Up wc wc.drew := (Up.refl wc).drew
          refine tree_do (fun K hK => ?_)
          go_wp2_with fail
          refine (HP.out wc.drew (HD.out.up hud)).mono ?_
          rintro en w8 ⟨rfl, rfl⟩
          go_wp2_with fail
          refine ⟨hud, ?_⟩
          repeat (refine tree_step rfl (fun K hK => ?_); go_big_quiet_step ((intro _; rfl)); refine wpQuiet_nil (hK _ ?_); clear hK K)
          refine tree_do (fun K hK => ?_)
          have hLL := (HD.out.up hud).laid
          have hfl := flatten_len HD.out.ok.len
          simp only [List.length_set] at hLL hfl
          have hil2 : i < (s.pg.set i q1).length := by rw [List.length_set]; exact HIL.out
          have hPl : (l.take P).length = P := by rw [List.length_take, HL256.out]; omega
          go_wp2_with (refine wpl_copyO 5 .u8 Try.underlying22 (by kernel_rfl) 0 (.slice (some ⟨gl, 0, none⟩) (256 * s.pg.length) cap) (s.pg.set i q1).flatten hLL gl (256 * s.pg.length) cap (256 * i) 256 (cap - 256 * i) rfl rfl A2 P c' (l.take P) rfl hPl.symm (hr2.up hud) (by rw [hPl]; exact hP2) (by rw [hPl, hfl]; have := HIL.out; omega) ?_; intro w9 ho9 hx9 hs9)
          refine ⟨trivial, ?_⟩
          refine tree_nil ?_
          have hfin := (HD.out.up hud).laidPage i hil2 (l.take P) (by rw [hPl]; exact hP2) hx9 (by simpa only [List.length_set] using ho9)
          simp only at hfin
          rw [show (s.pg.set i q1).getD i [] = q1 by rw [List.getD_eq_getElem?_getD, List.getElem?_set_self HIL.out]; rfl, List.set_set, ← HPQ.out] at hfin
          have HFIN := Lib.hid hfin
          clear hfin hfl hLL ho9 hPl
          go_wp2_with fail
          dsimp only [Act.put]
          simp only [List.setIfInBounds_toArray, List.set_cons_zero, List.set_cons_succ]
          go_meet
          exact ⟨HFIN.out, (hud.x _).trans (hx9.mono fun b _ e => HSUB.out b e)⟩
        · have hKb : (m : Int) ≤ (K : Int) := by omega
          have hKd : decide ((K : Int) < (m : Int)) = false := decide_eq_false (by omega)
          have HE := Lib.hid (show q2 = q1 by rw [HQ2.out, if_neg hlt])
          go_wp2_with fail
          go_meet
          exact ⟨by rw [HE.out]; exact hd2, UpX.refl _ _⟩
      case rest =>
        obtain ⟨hd3, hx3⟩ := hcut
        rename_i wb
        have k0 : wc.cell? ⟨r, 0, none⟩ = some (.int .i64 (i : Int)) := hx3.cell c0 (fun hb => HRS.out _ hb rfl)
        have g7 : wc.cell? ⟨g, 7, none⟩ = some (.map (some bm)) := hd3.b.cell 7
        have HD3 := Lib.hid hd3
        have HX3 := Lib.hid hx3
        have hmap := hd3.map
        clear hd2 c0 c2 hd3 hx3
        go_wp2_with fail
        refine wp_region_tree (fun w9 => Up wc w9) (.quiet 0 (.quiet 1 (.quiet 2 (.quiet 3 (.quiet 4 (.quiet 5 (.alt 6 (.nil) (.stop)))))))) (by kernel_rfl) (by kernel_rfl) rfl (by kernel_rfl) (by kernel_rfl) ((Up.refl wc).drew) ?_
        simp only [pickT, List.getElem?_cons_succ, List.getElem?_cons_zero, Option.getD_some]
        repeat (refine tree_step rfl (fun K hK => ?_); go_big_quiet_step ((intro _; rfl)); refine wpQuiet_nil (hK _ ?_); clear hK K)
        refine tree_load ⟨g, 7, none⟩ (.map (some bm)) (by kernel_rfl) rfl (by kernel_rfl) (fun w' h => h.cell g7) ?_
        dsimp only [Act.put]
        simp only [List.setIfInBounds_toArray, List.set_cons_zero, List.set_cons_succ]
        repeat (refine tree_step rfl (fun K hK => ?_); go_big_quiet_step ((intro _; rfl)); refine wpQuiet_nil (hK _ ?_); clear hK K)
        refine tree_load ⟨r, 0, none⟩ (.int .i64 (i : Int)) (by kernel_rfl) rfl (by kernel_rfl) (fun w' h => h.cell k0) ?_
        dsimp only [Act.put]
        simp only [List.setIfInBounds_toArray, List.set_cons_zero, List.set_cons_succ]
        repeat (refine tree_step rfl (fun K hK => ?_); go_big_quiet_step ((intro _; rfl)); refine wpQuiet_nil (hK _ ?_); clear hK K)
        have hud : Up wc wc.drew := (Up.refl wc).drew
        refine tree_do (fun K hK => ?_)
        go_wp2_with (refine wpl_mapDel wc.drew rfl _ _ 91 3 rfl 55 Try.underlying3 Try.underlying91 bm n f rfl (hmap.up hud) (i : Int) rfl hik ?_; intro w9 hm9 hx9)
        refine ⟨trivial, ?_⟩
        refine tree_nil ?_
        go_wp2_with fail
        go_ret
        have hfin := (HD3.out.up hud).dropped (i : Int) hx9 hm9
        have hq : crashPage ⟨i, kn, kq⟩ (s.wt i) (s.pg.getD i []) = q2 := by
          unfold crashPage
          rw [HM.out, HKL.out, HQ2.out, HQ1.out]
        have hks : keepS s ⟨i, kn, kq⟩ = { s with pg := s.pg.set i q2, wt := fun q => if q = (i : Int) then [] else s.wt q } := by
          unfold keepS
          simp only [Int.toNat_natCast]
          rw [hq]
        refine ⟨?_, ⟨_, _, _, _, _, by rw [hks]; exact hfin⟩, ?_⟩
        · show Ending.returned (Value.int .i64 (K : Int)) = _
          rw [HM.out, HKL.out]
        · exact ((HU.out.x S).trans ((HX2.out.trans HX3.out).trans ((hud.x _).trans (hx9.mono fun b _ e => by subst e; exact HD3.out.sbm))))
end Go.Proofs.Ytehdigkjbobndaa
