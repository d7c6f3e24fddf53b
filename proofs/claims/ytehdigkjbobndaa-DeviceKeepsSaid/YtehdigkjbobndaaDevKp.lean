/- Layer 3: the law DeviceKeeps. -/
import Derived.Test.YtehdigkjbobndaaDevT
namespace Go.Proofs.Ytehdigkjbobndaa
open Go.RowKit
set_option maxRecDepth 100000

/-- A call of a law. -/
structure Act3 where
  kind : Int
  no : Int
  b : List Int
  keep : List KeepS
structure ActsR3 (w : World) (A : Option Addr) (ls : List Act3) : Prop where
  at_ : ∀ (i : Nat) (x : Act3), ls[i]? = some x → ∃ b o, A = some ⟨b, o, none⟩ ∧ w.cell? ⟨b, o + i * 4, none⟩ = some (.int .i64 x.kind) ∧ w.cell? ⟨b, o + i * 4 + 1, none⟩ = some (.int .i64 x.no) ∧
    (∃ B d, w.cell? ⟨b, o + i * 4 + 2, none⟩ = some (.slice B x.b.length d) ∧ Rd w .u8 B d x.b) ∧
    ∃ B d, w.cell? ⟨b, o + i * 4 + 3, none⟩ = some (.slice B x.keep.length d) ∧ KeepsR w B x.keep ∧ x.keep.length ≤ d
  wf : ∀ x ∈ ls, InK .i64 x.kind ∧ InK .i64 x.no
  mx : ls.length ≤ 9223372036854775807
theorem DevO.now {w0 w : World} {M g : Nat} {s : DSt} (h : DevO w0 M w g s) : DevO w0 w.heap.size w g s := by
  obtain ⟨S, h1, h2, h3⟩ := h.out
  exact ⟨S, h1, fun b hb => ⟨(h2 b hb).1, h1.lt b hb⟩, h3⟩
/-- A device that is on, and isn't armed. -/
structure Calm (s : DSt) (P : Nat) : Prop where
  off : s.off = false
  armed : s.armed = false
  pages : s.pg.length = P
theorem Calm.use {s : DSt} {P : Nat} (h : Calm s P) : useOk s = true := by unfold useOk; rw [h.armed]; rfl
theorem Calm.useS {s : DSt} {P : Nat} (h : Calm s P) : Go.Proofs.Ytehdigkjbobndaa.useS s = { s with left := wrap64 (s.left - 1) } := by unfold Go.Proofs.Ytehdigkjbobndaa.useS; rw [h.use]; rfl
theorem Calm.writeR {s : DSt} {P : Nat} (h : Calm s P) {no : Nat} (hn : no < P) {l : List Int} (hl : l.length = 256) : devWriteR s no l = 0 := by
  unfold devWriteR
  rw [devErr_ok h.off (by omega) (by rw [h.pages]; omega), h.use, hl]
  simp
theorem Calm.writeS {s : DSt} {P : Nat} (h : Calm s P) {no : Nat} (hn : no < P) {l : List Int} (hl : l.length = 256) : devWriteS s no l = { s with left := wrap64 (s.left - 1), wr := s.wr + 1, wt := fun q => if q = (no : Int) then s.wt no ++ [l] else s.wt q } := by
  unfold devWriteS
  rw [devErr_ok h.off (by omega) (by rw [h.pages]; omega), h.use, hl, h.useS]
  simp
theorem u64_mod8 (x : Int) : ∃ i : Nat, i < 8 ∧ (IntKind.u64.wrap x).tmod 8 = (i : Int) := by
  have h : 0 ≤ IntKind.u64.wrap x := by rw [IntKind.wrap_u64]; omega
  rw [Int.tmod_eq_emod_of_nonneg h]
  exact ⟨((IntKind.u64.wrap x) % 8).toNat, by omega, by omega⟩
theorem Calm.write {s : DSt} {P : Nat} (h : Calm s P) {no : Nat} (hn : no < P) {l : List Int} (hl : l.length = 256) : Calm (devWriteS s no l) P := by
  rw [h.writeS hn hl]
  exact ⟨h.off, h.armed, h.pages⟩
theorem Calm.sync {s : DSt} {P : Nat} (h : Calm s P) : syncR s = 0 ∧ Calm (syncS s) P ∧ (syncS s).wt = (fun _ => []) ∧ (syncS s).wr = s.wr ∧ (syncS s).rd = s.rd := by
  have h1 : syncR s = 0 := by unfold syncR; rw [if_neg (by rw [h.off, h.use]; simp)]
  have h2 : syncS s = { s with left := wrap64 (s.left - 1), sy := s.sy + 1, pg := (List.range s.pg.length).map (devSees s), wt := fun _ => [] } := by
    unfold syncS
    rw [if_neg (by rw [h.off]; simp), if_pos h.use, h.useS]
  rw [h2]
  exact ⟨h1, ⟨h.off, h.armed, by simp [h.pages]⟩, rfl, rfl, rfl⟩
/-- What was read ahead. -/
structure WasI (w : World) (S : Nat → Prop) (ga : Nat) (pg : List (List Int)) (k : Nat) : Prop where mk ::
  out : ∃ cs, Blk w ga 43 cs ∧ cs.size = 8 ∧ (∀ j, j < 8 → ∃ A n c, cs[j]? = some (.slice A n c)) ∧ ∀ j, j < k → ∃ B d, cs[j]? = some (.slice B 256 d) ∧ Rd w .u8 B d (pg.getD j []) ∧ (pg.getD j []).length = 256 ∧ ∀ ad, B = some ad → ¬ S ad.block ∧ ad.block ≠ ga ∧ ad.block < w.heap.size
theorem WasI.upx {w w' : World} {S F : Nat → Prop} {ga : Nat} {pg : List (List Int)} {k : Nat} (h : WasI w S ga pg k) (hu : UpX F w w') (hF : ∀ b, F b → S b) (hg : ¬ S ga) : WasI w' S ga pg k := by
  obtain ⟨cs, h1, h2, h3, h4⟩ := h.out
  refine ⟨cs, h1.upx hu (fun e => hg (hF _ e)), h2, h3, fun j hj => ?_⟩
  obtain ⟨B, d, h5, h6, h7, h8⟩ := h4 j hj
  exact ⟨B, d, h5, h6.upx hu (fun ad e _ hf => (h8 ad e).1 (hF _ hf)), h7, fun ad e => ⟨(h8 ad e).1, (h8 ad e).2.1, Nat.lt_of_lt_of_le (h8 ad e).2.2 hu.size⟩⟩
theorem WasI.push {w : World} {S : Nat → Prop} {ga : Nat} {pg : List (List Int)} {k : Nat} (h : WasI w S ga pg k) (hk : k < 8) (B : Option Addr) (d : Nat) (hr : Rd w .u8 B d (pg.getD k [])) (hl : (pg.getD k []).length = 256) (hB : ∀ ad, B = some ad → ¬ S ad.block ∧ ad.block ≠ ga ∧ ad.block < w.heap.size) :
    WasI (w.setCell ⟨ga, k, none⟩ (.slice B 256 d)) S ga pg (k + 1) := by
  obtain ⟨cs, h1, h2, h3, h4⟩ := h.out
  have hu : UpX (fun b => b = ga) w (w.setCell ⟨ga, k, none⟩ (.slice B 256 d)) := UpX.one _ _ _ _
  refine ⟨_, h1.set k _, by simp [h2], fun j hj => ?_, fun j hj => ?_⟩
  · by_cases e : k = j
    · subst e
      exact ⟨B, 256, d, by simp [h2, hk]⟩
    · obtain ⟨A, n, c, h5⟩ := h3 j hj
      exact ⟨A, n, c, by rw [Array.getElem?_setIfInBounds_ne e]; exact h5⟩
  · by_cases e : k = j
    · subst e
      exact ⟨B, d, by simp [h2, hk], hr.upx hu (fun ad e _ => (hB ad e).2.1), hl, fun ad e => ⟨(hB ad e).1, (hB ad e).2.1, by have := (hB ad e).2.2; simpa using this⟩⟩
    · obtain ⟨B', d', h5, h6, h7, h8⟩ := h4 j (by omega)
      exact ⟨B', d', by rw [Array.getElem?_setIfInBounds_ne e]; exact h5, h6.upx hu (fun ad e _ => (h8 ad e).2.1), h7, fun ad e => ⟨(h8 ad e).1, (h8 ad e).2.1, by have := (h8 ad e).2.2; simpa using this⟩⟩
theorem WasI.mono {w : World} {S S' : Nat → Prop} {ga : Nat} {pg : List (List Int)} {k : Nat} (h : WasI w S ga pg k) (hS : ∀ b, b < w.heap.size → S' b → S b) : WasI w S' ga pg k := by
  obtain ⟨cs, h1, h2, h3, h4⟩ := h.out
  refine ⟨cs, h1, h2, h3, fun j hj => ?_⟩
  obtain ⟨B, d, h5, h6, h7, h8⟩ := h4 j hj
  exact ⟨B, d, h5, h6, h7, fun ad e => ⟨fun hs => (h8 ad e).1 (hS _ (h8 ad e).2.2 hs), (h8 ad e).2⟩⟩
/-- Which pages were written over. -/
structure OvI (w : World) (go : Nat) (ov : Nat → Bool) : Prop where mk ::
  out : ∃ cs, Blk w go 44 cs ∧ cs.size = 8 ∧ ∀ j, j < 8 → cs[j]? = some (.bool (ov j))
theorem OvI.upx {w w' : World} {F : Nat → Prop} {go : Nat} {ov : Nat → Bool} (h : OvI w go ov) (hu : UpX F w w') (hF : ¬ F go) : OvI w' go ov := by
  obtain ⟨cs, h1, h2, h3⟩ := h.out
  exact ⟨cs, h1.upx hu hF, h2, h3⟩
theorem OvI.set {w : World} {go : Nat} {ov : Nat → Bool} (h : OvI w go ov) (k : Nat) : OvI (w.setCell ⟨go, k, none⟩ (.bool true)) go (fun j => if j = k then true else ov j) := by
  obtain ⟨cs, h1, h2, h3⟩ := h.out
  refine ⟨_, h1.set k _, by simp [h2], fun j hj => ?_⟩
  by_cases e : k = j
  · subst e
    simp [h2, hj]
  · rw [Array.getElem?_setIfInBounds_ne e, h3 j hj, if_neg (fun e' => e e'.symm)]
theorem calm_sees {s : DSt} (h : s.wt = fun _ => []) (k : Nat) : devSees s k = s.pg.getD k [] := by unfold devSees; rw [h]; simp
set_option maxHeartbeats 4000000 in
theorem lawDeviceKeeps_calls (A1 : Option Addr) (c1 : Nat) (l1 : List Act3) (A2 : Option Addr) (c2 : Nat) (l2 : List Act3) (A3 : Option Addr) (c3 : Nat) (ks : List KeepS) (w : World) (h1 : ActsR3 w A1 l1) (_ : l1.length ≤ c1) (h2 : ActsR3 w A2 l2) (_ : l2.length ≤ c2) (h3 : KeepsR w A3 ks) (hc3 : ks.length ≤ c3) (hm3 : ks.length ≤ 9223372036854775807) :
    Calls Try.prog 4 #[.slice A1 l1.length c1, .slice A2 l2.length c2, .slice A3 ks.length c3] w fun e w' => e = .returned (.bool true) ∧ Up w w' := by
  have hnot : ∀ (x : Bool) (w : World), (Op.unary .not (.bool x)).run Try.prog w = .ok (.bool (!x)) w := fun _ _ => rfl
  have HN := Lib.hid (devNew_ok 8 w (by decide) (by decide))
  have hmx1 := h1.mx
  have hmx2 := h2.mx
  go_enter Try.func4, Try.ntmps4
  go_wp2_with fail
  refine (HN.out).mono ?_
  intro en w1 hm
  obtain ⟨g, rfl, hd⟩ := hm.o (Up.refl w)
  have HD := Lib.hid hd
  clear hd hm HN
  go_wp2_with fail
  go_loopw [9] (fun i wr => ∃ (k : Nat) (s : DSt), k ≤ l1.length ∧ k ≤ 30 ∧ i = .int .i64 k ∧ Hid (DevO w wr.heap.size wr g s) ∧ Hid (Calm s 8) ∧ s.wr ≤ k ∧ s.rd = 0 ∧ s.sy = 0) (fun i _ => 30 - (intOf i).toNat)
  case atStart => exact ⟨0, newS (zeroPg 8), by omega, by omega, rfl, HD, Lib.hid ⟨rfl, rfl, by simp [newS, zeroPg]⟩, Nat.le_refl _, rfl, rfl⟩
  case round =>
    clear HD
    obtain ⟨k, s, hk, hk30, rfl, HD, HC, hwr, hrd, hsy⟩ := hrel
    by_cases hlt : k < l1.length
    · by_cases h30 : k < 30
      · obtain ⟨z, hz⟩ : ∃ z, l1[k]? = some z := ⟨_, List.getElem?_eq_getElem hlt⟩
        obtain ⟨bz, oz, rfl, q0, q1, ⟨Bb, db, q2, hrb⟩, _⟩ := h1.at_ k z hz
        have hu := HD.out.w
        replace q1 := hu.cell q1
        replace q2 := hu.cell q2
        replace hrb := hrb.up hu
        obtain ⟨i8, hi8, hm8⟩ := u64_mod8 z.no
        clear hz q0 hu
        go_wp2_with fail
        refine wp_region_tree (fun w9 => Up wr w9) (.quiet 0 (.quiet 1 (.quiet 2 (.quiet 3 (.quiet 4 (.quiet 5 (.quiet 6 (.quiet 7 (.quiet 8 (.quiet 9 (.quiet 10 (.quiet 11 (.quiet 12 (.quiet 13 (.alt 14 (.alt 15 (.nil) (.stop)) (.stop)))))))))))))))) (by kernel_rfl) (by kernel_rfl) rfl (by kernel_rfl) (by kernel_rfl) ((Up.refl wr).drew) ?_
        simp only [pickT, List.getElem?_cons_succ, List.getElem?_cons_zero, Option.getD_some]
        repeat (refine tree_step rfl (fun K hK => ?_); go_big_quiet_step ((intro _; rfl)); refine wpQuiet_nil (hK _ ?_); clear hK K)
        refine tree_load ⟨bz, oz + k * 4 + 1, none⟩ (.int .i64 z.no) (by kernel_rfl) rfl (by kernel_rfl) (fun w' h => h.cell q1) ?_
        dsimp only [Act.put]
        simp only [List.setIfInBounds_toArray, List.set_cons_zero, List.set_cons_succ]
        repeat (refine tree_step rfl (fun K hK => ?_); go_big_quiet_step ((intro _; rfl)); refine wpQuiet_nil (hK _ ?_); clear hK K)
        refine tree_load ⟨bz, oz + k * 4 + 2, none⟩ (.slice Bb z.b.length db) (by kernel_rfl) rfl (by kernel_rfl) (fun w' h => h.cell q2) ?_
        dsimp only [Act.put]
        simp only [List.setIfInBounds_toArray, List.set_cons_zero, List.set_cons_succ]
        repeat (refine tree_step rfl (fun K hK => ?_); go_big_quiet_step ((intro _; rfl)); refine wpQuiet_nil (hK _ ?_); clear hK K)
        have hud : Up wr wr.drew := (Up.refl wr).drew
        refine tree_do (fun K hK => ?_)
        go_wp2_with fail
        refine (law03Full_calls Bb db z.b wr.drew (hrb.up hud)).mono ?_
        rintro en w2 ⟨v, rfl, hv, hu2⟩
        have HD2 := Lib.hid ((HD.out.up hud).up hu2)
        have hUU := hud.trans hu2
        obtain ⟨B, d, rfl, hr2⟩ := hv.rd
        have hB : ∀ ad, B = some ad → 0 < (full z.b).length → wr.heap.size ≤ ad.block ∨ ad.block < w.heap.size := fun ad e h0 => .inl (hv.blk ad e).1
        have HW := Lib.hid (HD2.out.write (i8 : Int) B d 256 (full z.b) hr2 (full_len _).symm (by omega) hB)
        rw [HC.out.writeR hi8 (full_len _), HC.out.writeS hi8 (full_len _)] at HW
        rw [full_len]
        clear hv hr2 hB hu2 hrb
        go_wp2_with fail
        refine ⟨hUU, ?_⟩
        repeat (refine tree_step rfl (fun K hK => ?_); go_big_quiet_step ((intro _; rfl)); refine wpQuiet_nil (hK _ ?_); clear hK K)
        refine tree_do (fun K hK => ?_)
        go_wp2_with fail
        refine (HW.out).mono ?_
        rintro en w3 ⟨rfl, hd3⟩
        have HD3 := Lib.hid hd3
        have HC3 := Lib.hid ((HC.out.writeS hi8 (full_len z.b)) ▸ HC.out.write hi8 (full_len z.b))
        clear hd3 HW HD HD2 HC hUU hud q1 q2
        go_wp2_with fail
        refine ⟨trivial, ?_⟩
        refine tree_nil ?_
        go_wp2_with fail
        go_roundw
        case rel => exact ⟨k + 1, _, by omega, by omega, by simp, HD3, HC3, by show s.wr + 1 ≤ k + 1; omega, hrd, hsy⟩
        case measure => simp [intOf]; omega
      · have hke : k = 30 := by omega
        subst hke
        clear h30
        obtain ⟨hs1, hs2, hs3, hs4, hs5⟩ := HC.out.sync
        have HS := Lib.hid (HD.out.sync (by omega))
        rw [hs1] at HS
        have HC1 := Lib.hid hs2
        have hrd1 : (syncS s).rd = 0 := by rw [hs5]; exact hrd
        have hwr1 : (syncS s).wr ≤ 30 := by rw [hs4]; omega
        have HWT := Lib.hid hs3
        clear HC HD hs1 hs2 hs3 hs4 hs5 hrd hwr hsy
        go_wp2_with fail
        refine (HS.out).mono ?_
        rintro en w3 ⟨rfl, hd3⟩
        generalize syncS s = s1 at *
        obtain ⟨S, hdi, hSS, hup⟩ := hd3.out
        have HDI := Lib.hid hdi
        have HUP := Lib.hid hup
        have HSS := Lib.hid hSS
        clear hd3 hdi hup hSS HS
        go_wp2_with (refine wpl_alloc' (t := 43) (cs := #[.slice none 0 0, .slice none 0 0, .slice none 0 0, .slice none 0 0, .slice none 0 0, .slice none 0 0, .slice none 0 0, .slice none 0 0]) (by kernel_rfl) ?_; intro w4 hu4 hb4 hs4)
        go_loopw [11] (fun i wr => ∃ k : Nat, k ≤ 8 ∧ i = .int .i64 k ∧ Hid (DevI wr g S { s1 with rd := k }) ∧ Hid (WasI wr S w3.heap.size s1.pg k) ∧ Hid (Up w wr) ∧ w3.heap.size + 1 ≤ wr.heap.size) (fun i _ => 8 - (intOf i).toNat)
        case atStart =>
          refine ⟨0, by omega, rfl, Lib.hid ?_, Lib.hid ⟨_, hb4, rfl, fun j hj => ?_, fun j hj => by omega⟩, Lib.hid (HUP.out.trans hu4), by omega⟩
          · have := HDI.out.up hu4
            rw [show s1 = { s1 with rd := 0 } from by rw [← hrd1]] at this
            exact this
          · rcases j with _ | _ | _ | _ | _ | _ | _ | _ | j
            all_goals first | exact ⟨none, 0, 0, rfl⟩ | omega
        case round =>
          clear HDI hb4 hu4
          obtain ⟨k, hk8, rfl, HDI, HWAS, HU3, hszr⟩ := hrel
          by_cases hlt : k < 8
          · have HRD := Lib.hid (devRead_to g S _ wr HDI.out k (show k < 1000000000000 by omega))
            have he : devErr { s1 with rd := k } (k : Int) = 0 := devErr_ok HC1.out.off (by omega) (by rw [show ({ s1 with rd := k } : DSt).pg.length = 8 from HC1.out.pages]; omega)
            have hsees : readL { s1 with rd := k } (k : Int) = s1.pg.getD k [] := by
              unfold readL
              rw [if_pos he, Int.toNat_natCast, calm_sees (s := { s1 with rd := k }) HWT.out]
            have hrs : readS { s1 with rd := k } (k : Int) = { s1 with rd := k + 1 } := by unfold readS; rw [if_pos he]
            have hpl : (s1.pg.getD k []).length = 256 := by
              rw [List.getD_eq_getElem?_getD, List.getElem?_eq_getElem (by rw [HC1.out.pages]; exact hlt)]
              exact HDI.out.ok.len _ (List.getElem_mem _)
            have HSE := Lib.hid hsees
            have HRS := Lib.hid hrs
            have HE := Lib.hid he
            have HPL := Lib.hid hpl
            have HSG := Lib.hid HDI.out.sg
            clear he hsees hrs hpl
            go_wp2_with fail
            refine (HRD.out).mono ?_
            intro en w5 hs
            obtain ⟨v, rfl, hv, hd5, hx5⟩ := hs.out
            rw [HSE.out] at hv
            rw [HRS.out] at hd5
            rw [HE.out]
            obtain ⟨B, d, rfl, hr5⟩ := hv.rd
            have hgaS : ¬ S w3.heap.size := fun e => by have := (HSS.out _ e).2; omega
            have hw5 := HWAS.out.upx hx5 (fun b e => by subst e; exact HSG.out) hgaS
            have hB : ∀ ad, B = some ad → ¬ S ad.block ∧ ad.block ≠ w3.heap.size ∧ ad.block < w5.heap.size := fun ad e => by
              have h9 := hv.blk ad e
              exact ⟨fun hs => by have := (HSS.out _ hs).2; omega, by omega, h9.2⟩
            obtain ⟨cs, hbk, hcs, hcv, _⟩ := hw5.out
            obtain ⟨A9, n9, c9, hc9⟩ := hcv k hlt
            have q0 : w5.cell? ⟨w3.heap.size, k, none⟩ = some (.slice A9 n9 c9) := by rw [hbk.cell, hc9]
            have y0 := hbk.frozen k
            have HWP := Lib.hid (hw5.push hlt B d hr5 HPL.out hB)
            have HD5 := Lib.hid (hd5.upx (UpX.one w5 w3.heap.size k (.slice B 256 d)) (fun b hb e => by subst e; exact hgaS hb))
            have HU5 := Lib.hid ((HU3.out.thenx hx5 (fun i hi e => by subst e; have := (HSS.out _ HSG.out).1; omega)).setCell (p := ⟨w3.heap.size, k, none⟩) HUP.out.size (.slice B 256 d))
            have hsz5 := hx5.size
            rw [HPL.out]
            clear hs hv hd5 hx5 hr5 hw5 hbk hcv hc9 hB HRD
            go_wp2_with fail
            go_roundw
            case rel => exact ⟨k + 1, by omega, by simp, HD5, HWP, HU5, by simp; omega⟩
            case measure => simp [intOf]; omega
          · have hk8' : k = 8 := by omega
            subst hk8'
            have hgaS : ¬ S w3.heap.size := fun e => by have := (HSS.out _ e).2; omega
            go_wp2_with (refine wpl_alloc' (t := 44) (cs := #[.bool false, .bool false, .bool false, .bool false, .bool false, .bool false, .bool false, .bool false]) (by kernel_rfl) ?_; intro w6 hu6 hb6 hs6)
            have HOV := Lib.hid (show OvI w6 wr.heap.size (fun _ => false) from ⟨_, hb6, rfl, fun j hj => by
              rcases j with _ | _ | _ | _ | _ | _ | _ | _ | j
              all_goals first | rfl | omega⟩)
            have HN := Lib.hid (show DevN (fun b => b < w6.heap.size ∧ ¬ S b) w6.heap.size w6 g { s1 with rd := 8 } from (HDI.out.up hu6).n)
            have HW6 := Lib.hid (show WasI w6 (fun b => ¬ (b < wr.heap.size ∧ ¬ S b)) w3.heap.size s1.pg 8 from ((HWAS.out.mono (S' := fun b => ¬ (b < wr.heap.size ∧ ¬ S b)) (fun b hb hn => Classical.byContradiction fun h9 => hn ⟨hb, h9⟩)).upx (hu6.x (fun _ => False)) (fun _ f => f.elim) (fun hn => hn ⟨by omega, hgaS⟩)))
            have HU6 := Lib.hid (HU3.out.trans hu6)
            have HSW := Lib.hid (show ∀ b, b < w.heap.size → ¬ S b from fun b hb hs => by have := (HSS.out b hs).1; omega)
            have hupz := HUP.out.size
            clear HDI HWAS HU3 hu6 hb6
            generalize wr.heap.size = go at *
            go_loopw [13, 14] (fun i _ wr2 => ∃ (k : Nat) (s : DSt) (ov : Nat → Bool), k ≤ l2.length ∧ k ≤ 10 ∧ i = .int .i64 k ∧ Hid (DevN (fun b => b < w6.heap.size ∧ ¬ S b) wr2.heap.size wr2 g s) ∧ Hid (Calm s 8) ∧ Hid (s.pg = s1.pg) ∧ Hid (∀ j : Nat, j < 8 → s.wt j ≠ [] → ov j = true) ∧ s.wr ≤ 30 + k ∧ s.rd = 8 ∧ Hid (WasI wr2 (fun b => ¬ (b < go ∧ ¬ S b)) w3.heap.size s1.pg 8) ∧ Hid (OvI wr2 go ov) ∧ Hid (Up w wr2) ∧ w6.heap.size ≤ wr2.heap.size) (fun i _ _ => 10 - (intOf i).toNat)
            case atStart => exact ⟨0, { s1 with rd := 8 }, fun _ => false, by omega, by omega, rfl, HN, Lib.hid ⟨HC1.out.off, HC1.out.armed, HC1.out.pages⟩, Lib.hid rfl, Lib.hid (fun j _ h => absurd (by show s1.wt j = []; rw [HWT.out]) h), by show s1.wr ≤ 30 + 0; omega, rfl, HW6, HOV, HU6, Nat.le_refl _⟩
            case round =>
              clear HN HW6 HOV HU6
              obtain ⟨k, s, ov, hk2, hk10, rfl, HD, HC, HPG, HOW, hwr, hrd, HWS, HOV, HU, hsz⟩ := hrel
              by_cases hlt2 : k < l2.length
              · by_cases h10 : k < 10
                · obtain ⟨z, hz⟩ : ∃ z, l2[k]? = some z := ⟨_, List.getElem?_eq_getElem hlt2⟩
                  obtain ⟨bz, oz, rfl, q0, q1, ⟨Bb, db, q2, hrb⟩, _⟩ := h2.at_ k z hz
                  replace q1 := HU.out.cell q1
                  replace q2 := HU.out.cell q2
                  replace hrb := hrb.up HU.out
                  obtain ⟨i8, hi8, hm8⟩ := u64_mod8 z.no
                  clear hz q0
                  go_wp2_with fail
                  refine (law03Full_calls Bb db z.b wr hrb).mono ?_
                  rintro en w7 ⟨v, rfl, hv, hu7⟩
                  have HD7 := Lib.hid (HD.out.up hu7)
                  have hsz7 := hu7.size
                  obtain ⟨B, d, rfl, hr7⟩ := hv.rd
                  have hB : ∀ ad, B = some ad → 0 < (full z.b).length → (ad.block < w6.heap.size ∧ ¬ S ad.block) ∨ wr.heap.size ≤ ad.block := fun ad e h0 => .inr (hv.blk ad e).1
                  have HW := Lib.hid (HD7.out.write (fun b hb => by omega) (i8 : Int) B d 256 (full z.b) hr7 (full_len _).symm (by omega) hB)
                  rw [HC.out.writeR hi8 (full_len _)] at HW
                  have HC7 := Lib.hid (HC.out.write hi8 (full_len z.b))
                  have HWS7 := Lib.hid (show (devWriteS s (i8 : Int) (full z.b)).pg = s.pg ∧ (devWriteS s (i8 : Int) (full z.b)).wr = s.wr + 1 ∧ (devWriteS s (i8 : Int) (full z.b)).rd = s.rd ∧ ∀ q, (devWriteS s (i8 : Int) (full z.b)).wt q = if q = (i8 : Int) then s.wt i8 ++ [full z.b] else s.wt q by
                    rw [HC.out.writeS hi8 (full_len z.b)]
                    exact ⟨rfl, rfl, rfl, fun _ => rfl⟩)
                  generalize devWriteS s (i8 : Int) (full z.b) = s7 at *
                  rw [full_len]
                  have HA7 := Lib.hid (HWS.out.upx (hu7.x (fun _ => False)) (fun _ f => f.elim) (fun hn => hn ⟨by omega, hgaS⟩))
                  have HO7 := Lib.hid (HOV.out.upx (hu7.x (fun _ => False)) (fun f => f))
                  have HU7 := Lib.hid (HU.out.trans hu7)
                  clear hv hr7 hB hrb HD HD7 hu7 q1 q2 HWS HOV HU
                  go_wp2_with fail
                  refine (HW.out).mono ?_
                  rintro en w8 ⟨rfl, hd8, hx8⟩
                  have hszx := hx8.size
                  have HA8 := Lib.hid (HA7.out.upx hx8 (fun b hb hn => hb ⟨by omega, hn.2⟩) (fun hn => hn ⟨by omega, hgaS⟩))
                  have hgoS : ¬ S go := fun e => by have := (HSS.out _ e).2; omega
                  have ho8 := HO7.out.upx hx8 (fun hn => hn ⟨by omega, hgoS⟩)
                  have HU8 := Lib.hid (HU7.out.thenx hx8 (fun i hi hn => hn ⟨by omega, HSW.out i hi⟩))
                  obtain ⟨co, hbo, hco, hcov⟩ := ho8.out
                  have p0 : w8.cell? ⟨go, i8, none⟩ = some (.bool (ov i8)) := by rw [hbo.cell, hcov i8 hi8]
                  have p1 := hbo.frozen i8
                  have hux : UpX (fun b => b = go) w8 (w8.setCell ⟨go, i8, none⟩ (.bool true)) := UpX.one _ _ _ _
                  have HD9 := Lib.hid ((hd8.upx hux (fun b e => by subst e; exact ⟨by omega, hgoS⟩)))
                  have HA9 := Lib.hid (HA8.out.upx hux (fun b e hn => by subst e; omega) (fun hn => hn ⟨by omega, hgaS⟩))
                  have HO9 := Lib.hid (ho8.set i8)
                  have HU9 := Lib.hid (HU8.out.setCell (p := ⟨go, i8, none⟩) (show w.heap.size ≤ go by omega) (.bool true))
                  have hi8b : (i8 : Int) < 8 := by omega
                  clear hd8 hx8 ho8 hbo hcov hux HW HA7 HO7 HU7 HA8 HU8
                  go_wp2_with fail
                  go_roundw
                  case rel =>
                    refine ⟨k + 1, s7, _, by omega, by omega, by simp, Lib.hid ?_, HC7, Lib.hid (HWS7.out.1.trans HPG.out), Lib.hid (fun j hj hw => ?_), by rw [HWS7.out.2.1]; omega, by rw [HWS7.out.2.2.1]; exact hrd, HA9, HO9, HU9, by simp; omega⟩
                    · exact HD9.out.now
                    · rw [HWS7.out.2.2.2] at hw
                      split
                      · rfl
                      · rename_i hne
                        rw [if_neg (by omega)] at hw
                        exact HOW.out j hj hw
                  case measure => simp [intOf]; omega
                · have hke : k = 10 := by omega
                  subst hke
                  clear h10
                  have HKP := Lib.hid (law03Keeps_calls A3 c3 ks wr (h3.up HU.out) hc3 hm3)
                  have HWIN := Lib.hid (show WtIn ⟨s.pg, s.wt, 0⟩ from fun p hp => by obtain ⟨S9, h9, _⟩ := HD.out.out; exact h9.ok.win p hp)
                  have hx30 : (ks.take 30).length ≤ 30 := List.length_take_le _ _
                  go_wp2_with fail
                  refine (HKP.out).mono ?_
                  intro en w7 hkp
                  obtain ⟨B, d, rfl, hBd, hkr, hBk, hu7⟩ := hkp.out
                  generalize ks.take 30 = x at *
                  have HD7 := Lib.hid (HD.out.up hu7)
                  have HA7 := Lib.hid (HWS.out.upx (hu7.x (fun _ => False)) (fun _ f => f.elim) (fun hn => hn ⟨by omega, hgaS⟩))
                  have HO7 := Lib.hid (HOV.out.upx (hu7.x (fun _ => False)) (fun f => f))
                  have HU7 := Lib.hid (HU.out.trans hu7)
                  have hsz7 := hu7.size
                  have HCR := Lib.hid (HD7.out.crash (fun b hb => by omega) B d x.length x hkr rfl (by omega) (by omega) (fun ad e _ => .inr (hBk ad e)))
                  have hgoS : ¬ S go := fun e => by have := (HSS.out _ e).2; omega
                  clear hkp hkr hBk hu7 HKP HD HWS HOV HU HD7
                  go_wp2_with fail
                  refine (HCR.out).mono ?_
                  rintro en w8 ⟨rfl, hd8, hx8⟩
                  have HPW := Lib.hid (hd8.power (fun b hb => by have := hx8.size; omega))
                  have hsz8 := hx8.size
                  have HA8 := Lib.hid (HA7.out.upx hx8 (fun b hb hn => hb ⟨by omega, hn.2⟩) (fun hn => hn ⟨by omega, hgaS⟩))
                  have HO8 := Lib.hid (HO7.out.upx hx8 (fun hn => hn ⟨by omega, hgoS⟩))
                  have HU8 := Lib.hid (HU7.out.thenx hx8 (fun i hi hn => hn ⟨by omega, HSW.out i hi⟩))
                  clear hd8 hx8 HCR HA7 HO7 HU7
                  go_wp2_with fail
                  refine (HPW.out).mono ?_
                  rintro en w9 ⟨rfl, hd9, hx9⟩
                  have hsz9 := hx9.size
                  have HA9 := Lib.hid (HA8.out.upx hx9 (fun b hb hn => hb ⟨by omega, hn.2⟩) (fun hn => hn ⟨by omega, hgaS⟩))
                  have HO9 := Lib.hid (HO8.out.upx hx9 (fun hn => hn ⟨by omega, hgoS⟩))
                  have HU9 := Lib.hid (HU8.out.thenx hx9 (fun i hi hn => hn ⟨by omega, HSW.out i hi⟩))
                  have HD9 := Lib.hid hd9
                  have HP9 := Lib.hid (show Calm (powerS (crashS s x)) 8 ∧ (powerS (crashS s x)).wt = (fun _ => []) ∧ (powerS (crashS s x)).rd = 8 from ⟨⟨rfl, rfl, by show (crashAll x ⟨s.pg, s.wt, 0⟩).pg.length = 8; rw [crashAll_len]; exact HC.out.pages⟩, rfl, hrd⟩)
                  have HSM := Lib.hid (show ∀ j, j < 8 → ov j = false → (powerS (crashS s x)).pg.getD j [] = s1.pg.getD j [] from fun j hj ho => by
                    show (crashAll x ⟨s.pg, s.wt, 0⟩).pg.getD j [] = _
                    have hdo : DOk (powerS (crashS s x)) := by obtain ⟨S9, h9, _⟩ := hd9.out; exact h9.ok
                    have hw0 : s.wt j = [] := by
                      rcases List.eq_nil_or_concat (s.wt j) with h9 | ⟨l9, a9, h9⟩
                      · exact h9
                      · have := HOW.out j hj (by rw [h9]; simp)
                        rw [ho] at this
                        cases this
                    have hcs := (crashAll_spec x ⟨s.pg, s.wt, 0⟩ HWIN.out).1 j (by show j < s.pg.length; rw [HC.out.pages]; exact hj)
                    rw [hcs]
                    simp only
                    rw [hw0, HPG.out]
                    unfold crashAt
                    split <;> simp)
                  generalize powerS (crashS s x) = sP at *
                  clear hd9 hx9 HPW HA8 HO8 HU8
                  go_wp2_with fail
                  go_loopw [6, 17, 18, 19] (fun _ i _ _ wr => ∃ k : Nat, k ≤ 8 ∧ i = .int .i64 k ∧ Hid (DevN (fun b => b < w6.heap.size ∧ ¬ S b) wr.heap.size wr g { sP with rd := 8 + k }) ∧ Hid (WasI wr (fun b => ¬ (b < go ∧ ¬ S b)) w3.heap.size s1.pg 8) ∧ Hid (OvI wr go ov) ∧ Hid (Up w wr) ∧ w6.heap.size ≤ wr.heap.size) (fun _ i _ _ _ => 8 - (intOf i).toNat)
                  case atStart => exact ⟨0, by omega, rfl, Lib.hid (by have := HD9.out; rw [show sP = { sP with rd := 8 + 0 } from by rw [Nat.add_zero, ← HP9.out.2.2]] at this; exact this), HA9, HO9, HU9, by omega⟩
                  case round =>
                    clear HD9 HA9 HO9 HU9
                    obtain ⟨k, hk8, rfl, HD, HA, HO, HU, hszk⟩ := hrel
                    by_cases hlt4 : k < 8
                    · have he : devErr { sP with rd := 8 + k } (k : Int) = 0 := devErr_ok HP9.out.1.off (by omega) (by rw [show ({ sP with rd := 8 + k } : DSt).pg.length = 8 from HP9.out.1.pages]; omega)
                      have HRD := Lib.hid (HD.out.read (k : Int) (show 8 + k < 1000000000000 by omega))
                      have HE := Lib.hid he
                      have HRL := Lib.hid (show readL { sP with rd := 8 + k } (k : Int) = sP.pg.getD k [] by unfold readL; rw [if_pos he, Int.toNat_natCast, calm_sees (s := { sP with rd := 8 + k }) HP9.out.2.1])
                      have HRS := Lib.hid (show readS { sP with rd := 8 + k } (k : Int) = { sP with rd := 8 + (k + 1) } by unfold readS; rw [if_pos he]; rfl)
                      have hpl : (sP.pg.getD k []).length = 256 := by
                        rw [List.getD_eq_getElem?_getD, List.getElem?_eq_getElem (by rw [HP9.out.1.pages]; exact hlt4)]
                        obtain ⟨S9, h9, _⟩ := HD.out.out
                        exact h9.ok.len _ (List.getElem_mem _)
                      have HPL := Lib.hid hpl
                      clear he hpl
                      go_wp2_with fail
                      refine (HRD.out).mono ?_
                      intro en w10 hs
                      obtain ⟨v, rfl, hv, hd10, hx10⟩ := hs.out
                      rw [HRL.out] at hv
                      rw [HRS.out] at hd10
                      rw [HE.out]
                      obtain ⟨B1, d1, rfl, hr1⟩ := hv.rd
                      rw [HPL.out]
                      have hsz10 := hx10.size
                      have HD10 := Lib.hid hd10.now
                      have ha10 := HA.out.upx hx10 (fun b hb hn => hb ⟨by omega, hn.2⟩) (fun hn => hn ⟨by omega, hgaS⟩)
                      have ho10 := HO.out.upx hx10 (fun hn => hn ⟨by omega, hgoS⟩)
                      have HU10 := Lib.hid (HU.out.thenx hx10 (fun i hi hn => hn ⟨by omega, HSW.out i hi⟩))
                      obtain ⟨ca, hba, hca, _, hcav⟩ := ha10.out
                      obtain ⟨B2, d2, hc2, hr2, hl2, _⟩ := hcav k hlt4
                      obtain ⟨co, hbo, hco, hcov⟩ := ho10.out
                      have p0 : w10.cell? ⟨go, k, none⟩ = some (.bool (ov k)) := by rw [hbo.cell, hcov k hlt4]
                      have p1 : w10.cell? ⟨w3.heap.size, k, none⟩ = some (.slice B2 256 d2) := by rw [hba.cell, hc2]
                      have HA10 := Lib.hid ha10
                      have HO10 := Lib.hid ho10
                      have HSMk := Lib.hid (HSM.out k hlt4)
                      have HL2 := Lib.hid hl2
                      have hk8b : (k : Int) < 8 := by omega
                      clear hs hv hd10 hx10 hba hcav hbo hcov HRD HD HA HO HU ha10 ho10 hc2 hl2
                      cases hov : ov k with
                      | true =>
                        rw [hov] at p0
                        have HOVK := Lib.hid hov
                        clear hov
                        go_wp2_with fail
                        go_roundw
                        case rel => exact ⟨k + 1, by omega, by simp, HD10, HA10, HO10, HU10, by omega⟩
                        case measure => simp [intOf]; omega
                      | false =>
                        rw [hov] at p0
                        have HSAME := Lib.hid (refSame_n hr1 hr2 HPL.out.symm HL2.out.symm)
                        rw [HSMk.out hov, decide_eq_true rfl] at HSAME
                        have HOVK := Lib.hid hov
                        clear hov hr1 hr2
                        go_wp2_with fail
                        refine (HSAME.out).mono ?_
                        rintro en w11 ⟨rfl, hq⟩
                        have HD11 := Lib.hid (HD10.out.up hq.up).now
                        have HA11 := Lib.hid (HA10.out.upx (hq.up.x (fun _ => False)) (fun _ f => f.elim) (fun hn => hn ⟨by omega, hgaS⟩))
                        have HO11 := Lib.hid (HO10.out.upx (hq.up.x (fun _ => False)) (fun f => f))
                        have HU11 := Lib.hid (HU10.out.trans hq.up)
                        have hsz11 := hq.up.size
                        clear hq HD10 HA10 HO10 HU10
                        go_wp2_with fail
                        go_roundw
                        case rel => exact ⟨k + 1, by omega, by simp, HD11, HA11, HO11, HU11, by omega⟩
                        case measure => simp [intOf]; omega
                    · have hk88 : k = 8 := by omega
                      subst hk88
                      go_wp2_with fail
                      refine (known03_calls wr).mono ?_
                      rintro en w12 ⟨rfl, hu12⟩
                      go_wp2_with fail
                      go_ret
                      exact ⟨rfl, HU.out.trans hu12⟩
              · have hke : k = l2.length := by omega
                subst hke
                have HKP := Lib.hid (law03Keeps_calls A3 c3 ks wr (h3.up HU.out) hc3 hm3)
                have HWIN := Lib.hid (show WtIn ⟨s.pg, s.wt, 0⟩ from fun p hp => by obtain ⟨S9, h9, _⟩ := HD.out.out; exact h9.ok.win p hp)
                have hx30 : (ks.take 30).length ≤ 30 := List.length_take_le _ _
                go_wp2_with fail
                refine (HKP.out).mono ?_
                intro en w7 hkp
                obtain ⟨B, d, rfl, hBd, hkr, hBk, hu7⟩ := hkp.out
                generalize ks.take 30 = x at *
                have HD7 := Lib.hid (HD.out.up hu7)
                have HA7 := Lib.hid (HWS.out.upx (hu7.x (fun _ => False)) (fun _ f => f.elim) (fun hn => hn ⟨by omega, hgaS⟩))
                have HO7 := Lib.hid (HOV.out.upx (hu7.x (fun _ => False)) (fun f => f))
                have HU7 := Lib.hid (HU.out.trans hu7)
                have hsz7 := hu7.size
                have HCR := Lib.hid (HD7.out.crash (fun b hb => by omega) B d x.length x hkr rfl (by omega) (by omega) (fun ad e _ => .inr (hBk ad e)))
                have hgoS : ¬ S go := fun e => by have := (HSS.out _ e).2; omega
                clear hkp hkr hBk hu7 HKP HD HWS HOV HU HD7
                go_wp2_with fail
                refine (HCR.out).mono ?_
                rintro en w8 ⟨rfl, hd8, hx8⟩
                have HPW := Lib.hid (hd8.power (fun b hb => by have := hx8.size; omega))
                have hsz8 := hx8.size
                have HA8 := Lib.hid (HA7.out.upx hx8 (fun b hb hn => hb ⟨by omega, hn.2⟩) (fun hn => hn ⟨by omega, hgaS⟩))
                have HO8 := Lib.hid (HO7.out.upx hx8 (fun hn => hn ⟨by omega, hgoS⟩))
                have HU8 := Lib.hid (HU7.out.thenx hx8 (fun i hi hn => hn ⟨by omega, HSW.out i hi⟩))
                clear hd8 hx8 HCR HA7 HO7 HU7
                go_wp2_with fail
                refine (HPW.out).mono ?_
                rintro en w9 ⟨rfl, hd9, hx9⟩
                have hsz9 := hx9.size
                have HA9 := Lib.hid (HA8.out.upx hx9 (fun b hb hn => hb ⟨by omega, hn.2⟩) (fun hn => hn ⟨by omega, hgaS⟩))
                have HO9 := Lib.hid (HO8.out.upx hx9 (fun hn => hn ⟨by omega, hgoS⟩))
                have HU9 := Lib.hid (HU8.out.thenx hx9 (fun i hi hn => hn ⟨by omega, HSW.out i hi⟩))
                have HD9 := Lib.hid hd9
                have HP9 := Lib.hid (show Calm (powerS (crashS s x)) 8 ∧ (powerS (crashS s x)).wt = (fun _ => []) ∧ (powerS (crashS s x)).rd = 8 from ⟨⟨rfl, rfl, by show (crashAll x ⟨s.pg, s.wt, 0⟩).pg.length = 8; rw [crashAll_len]; exact HC.out.pages⟩, rfl, hrd⟩)
                have HSM := Lib.hid (show ∀ j, j < 8 → ov j = false → (powerS (crashS s x)).pg.getD j [] = s1.pg.getD j [] from fun j hj ho => by
                  show (crashAll x ⟨s.pg, s.wt, 0⟩).pg.getD j [] = _
                  have hdo : DOk (powerS (crashS s x)) := by obtain ⟨S9, h9, _⟩ := hd9.out; exact h9.ok
                  have hw0 : s.wt j = [] := by
                    rcases List.eq_nil_or_concat (s.wt j) with h9 | ⟨l9, a9, h9⟩
                    · exact h9
                    · have := HOW.out j hj (by rw [h9]; simp)
                      rw [ho] at this
                      cases this
                  have hcs := (crashAll_spec x ⟨s.pg, s.wt, 0⟩ HWIN.out).1 j (by show j < s.pg.length; rw [HC.out.pages]; exact hj)
                  rw [hcs]
                  simp only
                  rw [hw0, HPG.out]
                  unfold crashAt
                  split <;> simp)
                generalize powerS (crashS s x) = sP at *
                clear hd9 hx9 HPW HA8 HO8 HU8
                go_wp2_with fail
                go_loopw [6, 17, 18, 19] (fun _ i _ _ wr => ∃ k : Nat, k ≤ 8 ∧ i = .int .i64 k ∧ Hid (DevN (fun b => b < w6.heap.size ∧ ¬ S b) wr.heap.size wr g { sP with rd := 8 + k }) ∧ Hid (WasI wr (fun b => ¬ (b < go ∧ ¬ S b)) w3.heap.size s1.pg 8) ∧ Hid (OvI wr go ov) ∧ Hid (Up w wr) ∧ w6.heap.size ≤ wr.heap.size) (fun _ i _ _ _ => 8 - (intOf i).toNat)
                case atStart => exact ⟨0, by omega, rfl, Lib.hid (by have := HD9.out; rw [show sP = { sP with rd := 8 + 0 } from by rw [Nat.add_zero, ← HP9.out.2.2]] at this; exact this), HA9, HO9, HU9, by omega⟩
                case round =>
                  clear HD9 HA9 HO9 HU9
                  obtain ⟨k, hk8, rfl, HD, HA, HO, HU, hszk⟩ := hrel
                  by_cases hlt4 : k < 8
                  · have he : devErr { sP with rd := 8 + k } (k : Int) = 0 := devErr_ok HP9.out.1.off (by omega) (by rw [show ({ sP with rd := 8 + k } : DSt).pg.length = 8 from HP9.out.1.pages]; omega)
                    have HRD := Lib.hid (HD.out.read (k : Int) (show 8 + k < 1000000000000 by omega))
                    have HE := Lib.hid he
                    have HRL := Lib.hid (show readL { sP with rd := 8 + k } (k : Int) = sP.pg.getD k [] by unfold readL; rw [if_pos he, Int.toNat_natCast, calm_sees (s := { sP with rd := 8 + k }) HP9.out.2.1])
                    have HRS := Lib.hid (show readS { sP with rd := 8 + k } (k : Int) = { sP with rd := 8 + (k + 1) } by unfold readS; rw [if_pos he]; rfl)
                    have hpl : (sP.pg.getD k []).length = 256 := by
                      rw [List.getD_eq_getElem?_getD, List.getElem?_eq_getElem (by rw [HP9.out.1.pages]; exact hlt4)]
                      obtain ⟨S9, h9, _⟩ := HD.out.out
                      exact h9.ok.len _ (List.getElem_mem _)
                    have HPL := Lib.hid hpl
                    clear he hpl
                    go_wp2_with fail
                    refine (HRD.out).mono ?_
                    intro en w10 hs
                    obtain ⟨v, rfl, hv, hd10, hx10⟩ := hs.out
                    rw [HRL.out] at hv
                    rw [HRS.out] at hd10
                    rw [HE.out]
                    obtain ⟨B1, d1, rfl, hr1⟩ := hv.rd
                    rw [HPL.out]
                    have hsz10 := hx10.size
                    have HD10 := Lib.hid hd10.now
                    have ha10 := HA.out.upx hx10 (fun b hb hn => hb ⟨by omega, hn.2⟩) (fun hn => hn ⟨by omega, hgaS⟩)
                    have ho10 := HO.out.upx hx10 (fun hn => hn ⟨by omega, hgoS⟩)
                    have HU10 := Lib.hid (HU.out.thenx hx10 (fun i hi hn => hn ⟨by omega, HSW.out i hi⟩))
                    obtain ⟨ca, hba, hca, _, hcav⟩ := ha10.out
                    obtain ⟨B2, d2, hc2, hr2, hl2, _⟩ := hcav k hlt4
                    obtain ⟨co, hbo, hco, hcov⟩ := ho10.out
                    have p0 : w10.cell? ⟨go, k, none⟩ = some (.bool (ov k)) := by rw [hbo.cell, hcov k hlt4]
                    have p1 : w10.cell? ⟨w3.heap.size, k, none⟩ = some (.slice B2 256 d2) := by rw [hba.cell, hc2]
                    have HA10 := Lib.hid ha10
                    have HO10 := Lib.hid ho10
                    have HSMk := Lib.hid (HSM.out k hlt4)
                    have HL2 := Lib.hid hl2
                    have hk8b : (k : Int) < 8 := by omega
                    clear hs hv hd10 hx10 hba hcav hbo hcov HRD HD HA HO HU ha10 ho10 hc2 hl2
                    cases hov : ov k with
                    | true =>
                      rw [hov] at p0
                      have HOVK := Lib.hid hov
                      clear hov
                      go_wp2_with fail
                      go_roundw
                      case rel => exact ⟨k + 1, by omega, by simp, HD10, HA10, HO10, HU10, by omega⟩
                      case measure => simp [intOf]; omega
                    | false =>
                      rw [hov] at p0
                      have HSAME := Lib.hid (refSame_n hr1 hr2 HPL.out.symm HL2.out.symm)
                      rw [HSMk.out hov, decide_eq_true rfl] at HSAME
                      have HOVK := Lib.hid hov
                      clear hov hr1 hr2
                      go_wp2_with fail
                      refine (HSAME.out).mono ?_
                      rintro en w11 ⟨rfl, hq⟩
                      have HD11 := Lib.hid (HD10.out.up hq.up).now
                      have HA11 := Lib.hid (HA10.out.upx (hq.up.x (fun _ => False)) (fun _ f => f.elim) (fun hn => hn ⟨by omega, hgaS⟩))
                      have HO11 := Lib.hid (HO10.out.upx (hq.up.x (fun _ => False)) (fun f => f))
                      have HU11 := Lib.hid (HU10.out.trans hq.up)
                      have hsz11 := hq.up.size
                      clear hq HD10 HA10 HO10 HU10
                      go_wp2_with fail
                      go_roundw
                      case rel => exact ⟨k + 1, by omega, by simp, HD11, HA11, HO11, HU11, by omega⟩
                      case measure => simp [intOf]; omega
                  · have hk88 : k = 8 := by omega
                    subst hk88
                    go_wp2_with fail
                    refine (known03_calls wr).mono ?_
                    rintro en w12 ⟨rfl, hu12⟩
                    go_wp2_with fail
                    go_ret
                    exact ⟨rfl, HU.out.trans hu12⟩
    · have hke : k = l1.length := by omega
      subst hke
      have hd30 : decide ((l1.length : Int) < 30) = decide ((l1.length : Int) < 30) := rfl
      clear hd30
      obtain ⟨hs1, hs2, hs3, hs4, hs5⟩ := HC.out.sync
      have HS := Lib.hid (HD.out.sync (by omega))
      rw [hs1] at HS
      have HC1 := Lib.hid hs2
      have hrd1 : (syncS s).rd = 0 := by rw [hs5]; exact hrd
      have hwr1 : (syncS s).wr ≤ 30 := by rw [hs4]; omega
      have HWT := Lib.hid hs3
      clear HC HD hs1 hs2 hs3 hs4 hs5 hrd hwr hsy
      go_wp2_with fail
      refine (HS.out).mono ?_
      rintro en w3 ⟨rfl, hd3⟩
      generalize syncS s = s1 at *
      obtain ⟨S, hdi, hSS, hup⟩ := hd3.out
      have HDI := Lib.hid hdi
      have HUP := Lib.hid hup
      have HSS := Lib.hid hSS
      clear hd3 hdi hup hSS HS
      go_wp2_with (refine wpl_alloc' (t := 43) (cs := #[.slice none 0 0, .slice none 0 0, .slice none 0 0, .slice none 0 0, .slice none 0 0, .slice none 0 0, .slice none 0 0, .slice none 0 0]) (by kernel_rfl) ?_; intro w4 hu4 hb4 hs4)
      go_loopw [11] (fun i wr => ∃ k : Nat, k ≤ 8 ∧ i = .int .i64 k ∧ Hid (DevI wr g S { s1 with rd := k }) ∧ Hid (WasI wr S w3.heap.size s1.pg k) ∧ Hid (Up w wr) ∧ w3.heap.size + 1 ≤ wr.heap.size) (fun i _ => 8 - (intOf i).toNat)
      case atStart =>
        refine ⟨0, by omega, rfl, Lib.hid ?_, Lib.hid ⟨_, hb4, rfl, fun j hj => ?_, fun j hj => by omega⟩, Lib.hid (HUP.out.trans hu4), by omega⟩
        · have := HDI.out.up hu4
          rw [show s1 = { s1 with rd := 0 } from by rw [← hrd1]] at this
          exact this
        · rcases j with _ | _ | _ | _ | _ | _ | _ | _ | j
          all_goals first | exact ⟨none, 0, 0, rfl⟩ | omega
      case round =>
        clear HDI hb4 hu4
        obtain ⟨k, hk8, rfl, HDI, HWAS, HU3, hszr⟩ := hrel
        by_cases hlt : k < 8
        · have HRD := Lib.hid (devRead_to g S _ wr HDI.out k (show k < 1000000000000 by omega))
          have he : devErr { s1 with rd := k } (k : Int) = 0 := devErr_ok HC1.out.off (by omega) (by rw [show ({ s1 with rd := k } : DSt).pg.length = 8 from HC1.out.pages]; omega)
          have hsees : readL { s1 with rd := k } (k : Int) = s1.pg.getD k [] := by
            unfold readL
            rw [if_pos he, Int.toNat_natCast, calm_sees (s := { s1 with rd := k }) HWT.out]
          have hrs : readS { s1 with rd := k } (k : Int) = { s1 with rd := k + 1 } := by unfold readS; rw [if_pos he]
          have hpl : (s1.pg.getD k []).length = 256 := by
            rw [List.getD_eq_getElem?_getD, List.getElem?_eq_getElem (by rw [HC1.out.pages]; exact hlt)]
            exact HDI.out.ok.len _ (List.getElem_mem _)
          have HSE := Lib.hid hsees
          have HRS := Lib.hid hrs
          have HE := Lib.hid he
          have HPL := Lib.hid hpl
          have HSG := Lib.hid HDI.out.sg
          clear he hsees hrs hpl
          go_wp2_with fail
          refine (HRD.out).mono ?_
          intro en w5 hs
          obtain ⟨v, rfl, hv, hd5, hx5⟩ := hs.out
          rw [HSE.out] at hv
          rw [HRS.out] at hd5
          rw [HE.out]
          obtain ⟨B, d, rfl, hr5⟩ := hv.rd
          have hgaS : ¬ S w3.heap.size := fun e => by have := (HSS.out _ e).2; omega
          have hw5 := HWAS.out.upx hx5 (fun b e => by subst e; exact HSG.out) hgaS
          have hB : ∀ ad, B = some ad → ¬ S ad.block ∧ ad.block ≠ w3.heap.size ∧ ad.block < w5.heap.size := fun ad e => by
            have h9 := hv.blk ad e
            exact ⟨fun hs => by have := (HSS.out _ hs).2; omega, by omega, h9.2⟩
          obtain ⟨cs, hbk, hcs, hcv, _⟩ := hw5.out
          obtain ⟨A9, n9, c9, hc9⟩ := hcv k hlt
          have q0 : w5.cell? ⟨w3.heap.size, k, none⟩ = some (.slice A9 n9 c9) := by rw [hbk.cell, hc9]
          have y0 := hbk.frozen k
          have HWP := Lib.hid (hw5.push hlt B d hr5 HPL.out hB)
          have HD5 := Lib.hid (hd5.upx (UpX.one w5 w3.heap.size k (.slice B 256 d)) (fun b hb e => by subst e; exact hgaS hb))
          have HU5 := Lib.hid ((HU3.out.thenx hx5 (fun i hi e => by subst e; have := (HSS.out _ HSG.out).1; omega)).setCell (p := ⟨w3.heap.size, k, none⟩) HUP.out.size (.slice B 256 d))
          have hsz5 := hx5.size
          rw [HPL.out]
          clear hs hv hd5 hx5 hr5 hw5 hbk hcv hc9 hB HRD
          go_wp2_with fail
          go_roundw
          case rel => exact ⟨k + 1, by omega, by simp, HD5, HWP, HU5, by simp; omega⟩
          case measure => simp [intOf]; omega
        · have hk8' : k = 8 := by omega
          subst hk8'
          have hgaS : ¬ S w3.heap.size := fun e => by have := (HSS.out _ e).2; omega
          go_wp2_with (refine wpl_alloc' (t := 44) (cs := #[.bool false, .bool false, .bool false, .bool false, .bool false, .bool false, .bool false, .bool false]) (by kernel_rfl) ?_; intro w6 hu6 hb6 hs6)
          have HOV := Lib.hid (show OvI w6 wr.heap.size (fun _ => false) from ⟨_, hb6, rfl, fun j hj => by
            rcases j with _ | _ | _ | _ | _ | _ | _ | _ | j
            all_goals first | rfl | omega⟩)
          have HN := Lib.hid (show DevN (fun b => b < w6.heap.size ∧ ¬ S b) w6.heap.size w6 g { s1 with rd := 8 } from (HDI.out.up hu6).n)
          have HW6 := Lib.hid (show WasI w6 (fun b => ¬ (b < wr.heap.size ∧ ¬ S b)) w3.heap.size s1.pg 8 from ((HWAS.out.mono (S' := fun b => ¬ (b < wr.heap.size ∧ ¬ S b)) (fun b hb hn => Classical.byContradiction fun h9 => hn ⟨hb, h9⟩)).upx (hu6.x (fun _ => False)) (fun _ f => f.elim) (fun hn => hn ⟨by omega, hgaS⟩)))
          have HU6 := Lib.hid (HU3.out.trans hu6)
          have HSW := Lib.hid (show ∀ b, b < w.heap.size → ¬ S b from fun b hb hs => by have := (HSS.out b hs).1; omega)
          have hupz := HUP.out.size
          clear HDI HWAS HU3 hu6 hb6
          generalize wr.heap.size = go at *
          go_loopw [13, 14] (fun i _ wr2 => ∃ (k : Nat) (s : DSt) (ov : Nat → Bool), k ≤ l2.length ∧ k ≤ 10 ∧ i = .int .i64 k ∧ Hid (DevN (fun b => b < w6.heap.size ∧ ¬ S b) wr2.heap.size wr2 g s) ∧ Hid (Calm s 8) ∧ Hid (s.pg = s1.pg) ∧ Hid (∀ j : Nat, j < 8 → s.wt j ≠ [] → ov j = true) ∧ s.wr ≤ 30 + k ∧ s.rd = 8 ∧ Hid (WasI wr2 (fun b => ¬ (b < go ∧ ¬ S b)) w3.heap.size s1.pg 8) ∧ Hid (OvI wr2 go ov) ∧ Hid (Up w wr2) ∧ w6.heap.size ≤ wr2.heap.size) (fun i _ _ => 10 - (intOf i).toNat)
          case atStart => exact ⟨0, { s1 with rd := 8 }, fun _ => false, by omega, by omega, rfl, HN, Lib.hid ⟨HC1.out.off, HC1.out.armed, HC1.out.pages⟩, Lib.hid rfl, Lib.hid (fun j _ h => absurd (by show s1.wt j = []; rw [HWT.out]) h), by show s1.wr ≤ 30 + 0; omega, rfl, HW6, HOV, HU6, Nat.le_refl _⟩
          case round =>
            clear HN HW6 HOV HU6
            obtain ⟨k, s, ov, hk2, hk10, rfl, HD, HC, HPG, HOW, hwr, hrd, HWS, HOV, HU, hsz⟩ := hrel
            by_cases hlt2 : k < l2.length
            · by_cases h10 : k < 10
              · obtain ⟨z, hz⟩ : ∃ z, l2[k]? = some z := ⟨_, List.getElem?_eq_getElem hlt2⟩
                obtain ⟨bz, oz, rfl, q0, q1, ⟨Bb, db, q2, hrb⟩, _⟩ := h2.at_ k z hz
                replace q1 := HU.out.cell q1
                replace q2 := HU.out.cell q2
                replace hrb := hrb.up HU.out
                obtain ⟨i8, hi8, hm8⟩ := u64_mod8 z.no
                clear hz q0
                go_wp2_with fail
                refine (law03Full_calls Bb db z.b wr hrb).mono ?_
                rintro en w7 ⟨v, rfl, hv, hu7⟩
                have HD7 := Lib.hid (HD.out.up hu7)
                have hsz7 := hu7.size
                obtain ⟨B, d, rfl, hr7⟩ := hv.rd
                have hB : ∀ ad, B = some ad → 0 < (full z.b).length → (ad.block < w6.heap.size ∧ ¬ S ad.block) ∨ wr.heap.size ≤ ad.block := fun ad e h0 => .inr (hv.blk ad e).1
                have HW := Lib.hid (HD7.out.write (fun b hb => by omega) (i8 : Int) B d 256 (full z.b) hr7 (full_len _).symm (by omega) hB)
                rw [HC.out.writeR hi8 (full_len _)] at HW
                have HC7 := Lib.hid (HC.out.write hi8 (full_len z.b))
                have HWS7 := Lib.hid (show (devWriteS s (i8 : Int) (full z.b)).pg = s.pg ∧ (devWriteS s (i8 : Int) (full z.b)).wr = s.wr + 1 ∧ (devWriteS s (i8 : Int) (full z.b)).rd = s.rd ∧ ∀ q, (devWriteS s (i8 : Int) (full z.b)).wt q = if q = (i8 : Int) then s.wt i8 ++ [full z.b] else s.wt q by
                  rw [HC.out.writeS hi8 (full_len z.b)]
                  exact ⟨rfl, rfl, rfl, fun _ => rfl⟩)
                generalize devWriteS s (i8 : Int) (full z.b) = s7 at *
                rw [full_len]
                have HA7 := Lib.hid (HWS.out.upx (hu7.x (fun _ => False)) (fun _ f => f.elim) (fun hn => hn ⟨by omega, hgaS⟩))
                have HO7 := Lib.hid (HOV.out.upx (hu7.x (fun _ => False)) (fun f => f))
                have HU7 := Lib.hid (HU.out.trans hu7)
                clear hv hr7 hB hrb HD HD7 hu7 q1 q2 HWS HOV HU
                go_wp2_with fail
                refine (HW.out).mono ?_
                rintro en w8 ⟨rfl, hd8, hx8⟩
                have hszx := hx8.size
                have HA8 := Lib.hid (HA7.out.upx hx8 (fun b hb hn => hb ⟨by omega, hn.2⟩) (fun hn => hn ⟨by omega, hgaS⟩))
                have hgoS : ¬ S go := fun e => by have := (HSS.out _ e).2; omega
                have ho8 := HO7.out.upx hx8 (fun hn => hn ⟨by omega, hgoS⟩)
                have HU8 := Lib.hid (HU7.out.thenx hx8 (fun i hi hn => hn ⟨by omega, HSW.out i hi⟩))
                obtain ⟨co, hbo, hco, hcov⟩ := ho8.out
                have p0 : w8.cell? ⟨go, i8, none⟩ = some (.bool (ov i8)) := by rw [hbo.cell, hcov i8 hi8]
                have p1 := hbo.frozen i8
                have hux : UpX (fun b => b = go) w8 (w8.setCell ⟨go, i8, none⟩ (.bool true)) := UpX.one _ _ _ _
                have HD9 := Lib.hid ((hd8.upx hux (fun b e => by subst e; exact ⟨by omega, hgoS⟩)))
                have HA9 := Lib.hid (HA8.out.upx hux (fun b e hn => by subst e; omega) (fun hn => hn ⟨by omega, hgaS⟩))
                have HO9 := Lib.hid (ho8.set i8)
                have HU9 := Lib.hid (HU8.out.setCell (p := ⟨go, i8, none⟩) (show w.heap.size ≤ go by omega) (.bool true))
                have hi8b : (i8 : Int) < 8 := by omega
                clear hd8 hx8 ho8 hbo hcov hux HW HA7 HO7 HU7 HA8 HU8
                go_wp2_with fail
                go_roundw
                case rel =>
                  refine ⟨k + 1, s7, _, by omega, by omega, by simp, Lib.hid ?_, HC7, Lib.hid (HWS7.out.1.trans HPG.out), Lib.hid (fun j hj hw => ?_), by rw [HWS7.out.2.1]; omega, by rw [HWS7.out.2.2.1]; exact hrd, HA9, HO9, HU9, by simp; omega⟩
                  · exact HD9.out.now
                  · rw [HWS7.out.2.2.2] at hw
                    split
                    · rfl
                    · rename_i hne
                      rw [if_neg (by omega)] at hw
                      exact HOW.out j hj hw
                case measure => simp [intOf]; omega
              · have hke : k = 10 := by omega
                subst hke
                clear h10
                have HKP := Lib.hid (law03Keeps_calls A3 c3 ks wr (h3.up HU.out) hc3 hm3)
                have HWIN := Lib.hid (show WtIn ⟨s.pg, s.wt, 0⟩ from fun p hp => by obtain ⟨S9, h9, _⟩ := HD.out.out; exact h9.ok.win p hp)
                have hx30 : (ks.take 30).length ≤ 30 := List.length_take_le _ _
                go_wp2_with fail
                refine (HKP.out).mono ?_
                intro en w7 hkp
                obtain ⟨B, d, rfl, hBd, hkr, hBk, hu7⟩ := hkp.out
                generalize ks.take 30 = x at *
                have HD7 := Lib.hid (HD.out.up hu7)
                have HA7 := Lib.hid (HWS.out.upx (hu7.x (fun _ => False)) (fun _ f => f.elim) (fun hn => hn ⟨by omega, hgaS⟩))
                have HO7 := Lib.hid (HOV.out.upx (hu7.x (fun _ => False)) (fun f => f))
                have HU7 := Lib.hid (HU.out.trans hu7)
                have hsz7 := hu7.size
                have HCR := Lib.hid (HD7.out.crash (fun b hb => by omega) B d x.length x hkr rfl (by omega) (by omega) (fun ad e _ => .inr (hBk ad e)))
                have hgoS : ¬ S go := fun e => by have := (HSS.out _ e).2; omega
                clear hkp hkr hBk hu7 HKP HD HWS HOV HU HD7
                go_wp2_with fail
                refine (HCR.out).mono ?_
                rintro en w8 ⟨rfl, hd8, hx8⟩
                have HPW := Lib.hid (hd8.power (fun b hb => by have := hx8.size; omega))
                have hsz8 := hx8.size
                have HA8 := Lib.hid (HA7.out.upx hx8 (fun b hb hn => hb ⟨by omega, hn.2⟩) (fun hn => hn ⟨by omega, hgaS⟩))
                have HO8 := Lib.hid (HO7.out.upx hx8 (fun hn => hn ⟨by omega, hgoS⟩))
                have HU8 := Lib.hid (HU7.out.thenx hx8 (fun i hi hn => hn ⟨by omega, HSW.out i hi⟩))
                clear hd8 hx8 HCR HA7 HO7 HU7
                go_wp2_with fail
                refine (HPW.out).mono ?_
                rintro en w9 ⟨rfl, hd9, hx9⟩
                have hsz9 := hx9.size
                have HA9 := Lib.hid (HA8.out.upx hx9 (fun b hb hn => hb ⟨by omega, hn.2⟩) (fun hn => hn ⟨by omega, hgaS⟩))
                have HO9 := Lib.hid (HO8.out.upx hx9 (fun hn => hn ⟨by omega, hgoS⟩))
                have HU9 := Lib.hid (HU8.out.thenx hx9 (fun i hi hn => hn ⟨by omega, HSW.out i hi⟩))
                have HD9 := Lib.hid hd9
                have HP9 := Lib.hid (show Calm (powerS (crashS s x)) 8 ∧ (powerS (crashS s x)).wt = (fun _ => []) ∧ (powerS (crashS s x)).rd = 8 from ⟨⟨rfl, rfl, by show (crashAll x ⟨s.pg, s.wt, 0⟩).pg.length = 8; rw [crashAll_len]; exact HC.out.pages⟩, rfl, hrd⟩)
                have HSM := Lib.hid (show ∀ j, j < 8 → ov j = false → (powerS (crashS s x)).pg.getD j [] = s1.pg.getD j [] from fun j hj ho => by
                  show (crashAll x ⟨s.pg, s.wt, 0⟩).pg.getD j [] = _
                  have hdo : DOk (powerS (crashS s x)) := by obtain ⟨S9, h9, _⟩ := hd9.out; exact h9.ok
                  have hw0 : s.wt j = [] := by
                    rcases List.eq_nil_or_concat (s.wt j) with h9 | ⟨l9, a9, h9⟩
                    · exact h9
                    · have := HOW.out j hj (by rw [h9]; simp)
                      rw [ho] at this
                      cases this
                  have hcs := (crashAll_spec x ⟨s.pg, s.wt, 0⟩ HWIN.out).1 j (by show j < s.pg.length; rw [HC.out.pages]; exact hj)
                  rw [hcs]
                  simp only
                  rw [hw0, HPG.out]
                  unfold crashAt
                  split <;> simp)
                generalize powerS (crashS s x) = sP at *
                clear hd9 hx9 HPW HA8 HO8 HU8
                go_wp2_with fail
                go_loopw [6, 17, 18, 19] (fun _ i _ _ wr => ∃ k : Nat, k ≤ 8 ∧ i = .int .i64 k ∧ Hid (DevN (fun b => b < w6.heap.size ∧ ¬ S b) wr.heap.size wr g { sP with rd := 8 + k }) ∧ Hid (WasI wr (fun b => ¬ (b < go ∧ ¬ S b)) w3.heap.size s1.pg 8) ∧ Hid (OvI wr go ov) ∧ Hid (Up w wr) ∧ w6.heap.size ≤ wr.heap.size) (fun _ i _ _ _ => 8 - (intOf i).toNat)
                case atStart => exact ⟨0, by omega, rfl, Lib.hid (by have := HD9.out; rw [show sP = { sP with rd := 8 + 0 } from by rw [Nat.add_zero, ← HP9.out.2.2]] at this; exact this), HA9, HO9, HU9, by omega⟩
                case round =>
                  clear HD9 HA9 HO9 HU9
                  obtain ⟨k, hk8, rfl, HD, HA, HO, HU, hszk⟩ := hrel
                  by_cases hlt4 : k < 8
                  · have he : devErr { sP with rd := 8 + k } (k : Int) = 0 := devErr_ok HP9.out.1.off (by omega) (by rw [show ({ sP with rd := 8 + k } : DSt).pg.length = 8 from HP9.out.1.pages]; omega)
                    have HRD := Lib.hid (HD.out.read (k : Int) (show 8 + k < 1000000000000 by omega))
                    have HE := Lib.hid he
                    have HRL := Lib.hid (show readL { sP with rd := 8 + k } (k : Int) = sP.pg.getD k [] by unfold readL; rw [if_pos he, Int.toNat_natCast, calm_sees (s := { sP with rd := 8 + k }) HP9.out.2.1])
                    have HRS := Lib.hid (show readS { sP with rd := 8 + k } (k : Int) = { sP with rd := 8 + (k + 1) } by unfold readS; rw [if_pos he]; rfl)
                    have hpl : (sP.pg.getD k []).length = 256 := by
                      rw [List.getD_eq_getElem?_getD, List.getElem?_eq_getElem (by rw [HP9.out.1.pages]; exact hlt4)]
                      obtain ⟨S9, h9, _⟩ := HD.out.out
                      exact h9.ok.len _ (List.getElem_mem _)
                    have HPL := Lib.hid hpl
                    clear he hpl
                    go_wp2_with fail
                    refine (HRD.out).mono ?_
                    intro en w10 hs
                    obtain ⟨v, rfl, hv, hd10, hx10⟩ := hs.out
                    rw [HRL.out] at hv
                    rw [HRS.out] at hd10
                    rw [HE.out]
                    obtain ⟨B1, d1, rfl, hr1⟩ := hv.rd
                    rw [HPL.out]
                    have hsz10 := hx10.size
                    have HD10 := Lib.hid hd10.now
                    have ha10 := HA.out.upx hx10 (fun b hb hn => hb ⟨by omega, hn.2⟩) (fun hn => hn ⟨by omega, hgaS⟩)
                    have ho10 := HO.out.upx hx10 (fun hn => hn ⟨by omega, hgoS⟩)
                    have HU10 := Lib.hid (HU.out.thenx hx10 (fun i hi hn => hn ⟨by omega, HSW.out i hi⟩))
                    obtain ⟨ca, hba, hca, _, hcav⟩ := ha10.out
                    obtain ⟨B2, d2, hc2, hr2, hl2, _⟩ := hcav k hlt4
                    obtain ⟨co, hbo, hco, hcov⟩ := ho10.out
                    have p0 : w10.cell? ⟨go, k, none⟩ = some (.bool (ov k)) := by rw [hbo.cell, hcov k hlt4]
                    have p1 : w10.cell? ⟨w3.heap.size, k, none⟩ = some (.slice B2 256 d2) := by rw [hba.cell, hc2]
                    have HA10 := Lib.hid ha10
                    have HO10 := Lib.hid ho10
                    have HSMk := Lib.hid (HSM.out k hlt4)
                    have HL2 := Lib.hid hl2
                    have hk8b : (k : Int) < 8 := by omega
                    clear hs hv hd10 hx10 hba hcav hbo hcov HRD HD HA HO HU ha10 ho10 hc2 hl2
                    cases hov : ov k with
                    | true =>
                      rw [hov] at p0
                      have HOVK := Lib.hid hov
                      clear hov
                      go_wp2_with fail
                      go_roundw
                      case rel => exact ⟨k + 1, by omega, by simp, HD10, HA10, HO10, HU10, by omega⟩
                      case measure => simp [intOf]; omega
                    | false =>
                      rw [hov] at p0
                      have HSAME := Lib.hid (refSame_n hr1 hr2 HPL.out.symm HL2.out.symm)
                      rw [HSMk.out hov, decide_eq_true rfl] at HSAME
                      have HOVK := Lib.hid hov
                      clear hov hr1 hr2
                      go_wp2_with fail
                      refine (HSAME.out).mono ?_
                      rintro en w11 ⟨rfl, hq⟩
                      have HD11 := Lib.hid (HD10.out.up hq.up).now
                      have HA11 := Lib.hid (HA10.out.upx (hq.up.x (fun _ => False)) (fun _ f => f.elim) (fun hn => hn ⟨by omega, hgaS⟩))
                      have HO11 := Lib.hid (HO10.out.upx (hq.up.x (fun _ => False)) (fun f => f))
                      have HU11 := Lib.hid (HU10.out.trans hq.up)
                      have hsz11 := hq.up.size
                      clear hq HD10 HA10 HO10 HU10
                      go_wp2_with fail
                      go_roundw
                      case rel => exact ⟨k + 1, by omega, by simp, HD11, HA11, HO11, HU11, by omega⟩
                      case measure => simp [intOf]; omega
                  · have hk88 : k = 8 := by omega
                    subst hk88
                    go_wp2_with fail
                    refine (known03_calls wr).mono ?_
                    rintro en w12 ⟨rfl, hu12⟩
                    go_wp2_with fail
                    go_ret
                    exact ⟨rfl, HU.out.trans hu12⟩
            · have hke : k = l2.length := by omega
              subst hke
              have HKP := Lib.hid (law03Keeps_calls A3 c3 ks wr (h3.up HU.out) hc3 hm3)
              have HWIN := Lib.hid (show WtIn ⟨s.pg, s.wt, 0⟩ from fun p hp => by obtain ⟨S9, h9, _⟩ := HD.out.out; exact h9.ok.win p hp)
              have hx30 : (ks.take 30).length ≤ 30 := List.length_take_le _ _
              go_wp2_with fail
              refine (HKP.out).mono ?_
              intro en w7 hkp
              obtain ⟨B, d, rfl, hBd, hkr, hBk, hu7⟩ := hkp.out
              generalize ks.take 30 = x at *
              have HD7 := Lib.hid (HD.out.up hu7)
              have HA7 := Lib.hid (HWS.out.upx (hu7.x (fun _ => False)) (fun _ f => f.elim) (fun hn => hn ⟨by omega, hgaS⟩))
              have HO7 := Lib.hid (HOV.out.upx (hu7.x (fun _ => False)) (fun f => f))
              have HU7 := Lib.hid (HU.out.trans hu7)
              have hsz7 := hu7.size
              have HCR := Lib.hid (HD7.out.crash (fun b hb => by omega) B d x.length x hkr rfl (by omega) (by omega) (fun ad e _ => .inr (hBk ad e)))
              have hgoS : ¬ S go := fun e => by have := (HSS.out _ e).2; omega
              clear hkp hkr hBk hu7 HKP HD HWS HOV HU HD7
              go_wp2_with fail
              refine (HCR.out).mono ?_
              rintro en w8 ⟨rfl, hd8, hx8⟩
              have HPW := Lib.hid (hd8.power (fun b hb => by have := hx8.size; omega))
              have hsz8 := hx8.size
              have HA8 := Lib.hid (HA7.out.upx hx8 (fun b hb hn => hb ⟨by omega, hn.2⟩) (fun hn => hn ⟨by omega, hgaS⟩))
              have HO8 := Lib.hid (HO7.out.upx hx8 (fun hn => hn ⟨by omega, hgoS⟩))
              have HU8 := Lib.hid (HU7.out.thenx hx8 (fun i hi hn => hn ⟨by omega, HSW.out i hi⟩))
              clear hd8 hx8 HCR HA7 HO7 HU7
              go_wp2_with fail
              refine (HPW.out).mono ?_
              rintro en w9 ⟨rfl, hd9, hx9⟩
              have hsz9 := hx9.size
              have HA9 := Lib.hid (HA8.out.upx hx9 (fun b hb hn => hb ⟨by omega, hn.2⟩) (fun hn => hn ⟨by omega, hgaS⟩))
              have HO9 := Lib.hid (HO8.out.upx hx9 (fun hn => hn ⟨by omega, hgoS⟩))
              have HU9 := Lib.hid (HU8.out.thenx hx9 (fun i hi hn => hn ⟨by omega, HSW.out i hi⟩))
              have HD9 := Lib.hid hd9
              have HP9 := Lib.hid (show Calm (powerS (crashS s x)) 8 ∧ (powerS (crashS s x)).wt = (fun _ => []) ∧ (powerS (crashS s x)).rd = 8 from ⟨⟨rfl, rfl, by show (crashAll x ⟨s.pg, s.wt, 0⟩).pg.length = 8; rw [crashAll_len]; exact HC.out.pages⟩, rfl, hrd⟩)
              have HSM := Lib.hid (show ∀ j, j < 8 → ov j = false → (powerS (crashS s x)).pg.getD j [] = s1.pg.getD j [] from fun j hj ho => by
                show (crashAll x ⟨s.pg, s.wt, 0⟩).pg.getD j [] = _
                have hdo : DOk (powerS (crashS s x)) := by obtain ⟨S9, h9, _⟩ := hd9.out; exact h9.ok
                have hw0 : s.wt j = [] := by
                  rcases List.eq_nil_or_concat (s.wt j) with h9 | ⟨l9, a9, h9⟩
                  · exact h9
                  · have := HOW.out j hj (by rw [h9]; simp)
                    rw [ho] at this
                    cases this
                have hcs := (crashAll_spec x ⟨s.pg, s.wt, 0⟩ HWIN.out).1 j (by show j < s.pg.length; rw [HC.out.pages]; exact hj)
                rw [hcs]
                simp only
                rw [hw0, HPG.out]
                unfold crashAt
                split <;> simp)
              generalize powerS (crashS s x) = sP at *
              clear hd9 hx9 HPW HA8 HO8 HU8
              go_wp2_with fail
              go_loopw [6, 17, 18, 19] (fun _ i _ _ wr => ∃ k : Nat, k ≤ 8 ∧ i = .int .i64 k ∧ Hid (DevN (fun b => b < w6.heap.size ∧ ¬ S b) wr.heap.size wr g { sP with rd := 8 + k }) ∧ Hid (WasI wr (fun b => ¬ (b < go ∧ ¬ S b)) w3.heap.size s1.pg 8) ∧ Hid (OvI wr go ov) ∧ Hid (Up w wr) ∧ w6.heap.size ≤ wr.heap.size) (fun _ i _ _ _ => 8 - (intOf i).toNat)
              case atStart => exact ⟨0, by omega, rfl, Lib.hid (by have := HD9.out; rw [show sP = { sP with rd := 8 + 0 } from by rw [Nat.add_zero, ← HP9.out.2.2]] at this; exact this), HA9, HO9, HU9, by omega⟩
              case round =>
                clear HD9 HA9 HO9 HU9
                obtain ⟨k, hk8, rfl, HD, HA, HO, HU, hszk⟩ := hrel
                by_cases hlt4 : k < 8
                · have he : devErr { sP with rd := 8 + k } (k : Int) = 0 := devErr_ok HP9.out.1.off (by omega) (by rw [show ({ sP with rd := 8 + k } : DSt).pg.length = 8 from HP9.out.1.pages]; omega)
                  have HRD := Lib.hid (HD.out.read (k : Int) (show 8 + k < 1000000000000 by omega))
                  have HE := Lib.hid he
                  have HRL := Lib.hid (show readL { sP with rd := 8 + k } (k : Int) = sP.pg.getD k [] by unfold readL; rw [if_pos he, Int.toNat_natCast, calm_sees (s := { sP with rd := 8 + k }) HP9.out.2.1])
                  have HRS := Lib.hid (show readS { sP with rd := 8 + k } (k : Int) = { sP with rd := 8 + (k + 1) } by unfold readS; rw [if_pos he]; rfl)
                  have hpl : (sP.pg.getD k []).length = 256 := by
                    rw [List.getD_eq_getElem?_getD, List.getElem?_eq_getElem (by rw [HP9.out.1.pages]; exact hlt4)]
                    obtain ⟨S9, h9, _⟩ := HD.out.out
                    exact h9.ok.len _ (List.getElem_mem _)
                  have HPL := Lib.hid hpl
                  clear he hpl
                  go_wp2_with fail
                  refine (HRD.out).mono ?_
                  intro en w10 hs
                  obtain ⟨v, rfl, hv, hd10, hx10⟩ := hs.out
                  rw [HRL.out] at hv
                  rw [HRS.out] at hd10
                  rw [HE.out]
                  obtain ⟨B1, d1, rfl, hr1⟩ := hv.rd
                  rw [HPL.out]
                  have hsz10 := hx10.size
                  have HD10 := Lib.hid hd10.now
                  have ha10 := HA.out.upx hx10 (fun b hb hn => hb ⟨by omega, hn.2⟩) (fun hn => hn ⟨by omega, hgaS⟩)
                  have ho10 := HO.out.upx hx10 (fun hn => hn ⟨by omega, hgoS⟩)
                  have HU10 := Lib.hid (HU.out.thenx hx10 (fun i hi hn => hn ⟨by omega, HSW.out i hi⟩))
                  obtain ⟨ca, hba, hca, _, hcav⟩ := ha10.out
                  obtain ⟨B2, d2, hc2, hr2, hl2, _⟩ := hcav k hlt4
                  obtain ⟨co, hbo, hco, hcov⟩ := ho10.out
                  have p0 : w10.cell? ⟨go, k, none⟩ = some (.bool (ov k)) := by rw [hbo.cell, hcov k hlt4]
                  have p1 : w10.cell? ⟨w3.heap.size, k, none⟩ = some (.slice B2 256 d2) := by rw [hba.cell, hc2]
                  have HA10 := Lib.hid ha10
                  have HO10 := Lib.hid ho10
                  have HSMk := Lib.hid (HSM.out k hlt4)
                  have HL2 := Lib.hid hl2
                  have hk8b : (k : Int) < 8 := by omega
                  clear hs hv hd10 hx10 hba hcav hbo hcov HRD HD HA HO HU ha10 ho10 hc2 hl2
                  cases hov : ov k with
                  | true =>
                    rw [hov] at p0
                    have HOVK := Lib.hid hov
                    clear hov
                    go_wp2_with fail
                    go_roundw
                    case rel => exact ⟨k + 1, by omega, by simp, HD10, HA10, HO10, HU10, by omega⟩
                    case measure => simp [intOf]; omega
                  | false =>
                    rw [hov] at p0
                    have HSAME := Lib.hid (refSame_n hr1 hr2 HPL.out.symm HL2.out.symm)
                    rw [HSMk.out hov, decide_eq_true rfl] at HSAME
                    have HOVK := Lib.hid hov
                    clear hov hr1 hr2
                    go_wp2_with fail
                    refine (HSAME.out).mono ?_
                    rintro en w11 ⟨rfl, hq⟩
                    have HD11 := Lib.hid (HD10.out.up hq.up).now
                    have HA11 := Lib.hid (HA10.out.upx (hq.up.x (fun _ => False)) (fun _ f => f.elim) (fun hn => hn ⟨by omega, hgaS⟩))
                    have HO11 := Lib.hid (HO10.out.upx (hq.up.x (fun _ => False)) (fun f => f))
                    have HU11 := Lib.hid (HU10.out.trans hq.up)
                    have hsz11 := hq.up.size
                    clear hq HD10 HA10 HO10 HU10
                    go_wp2_with fail
                    go_roundw
                    case rel => exact ⟨k + 1, by omega, by simp, HD11, HA11, HO11, HU11, by omega⟩
                    case measure => simp [intOf]; omega
                · have hk88 : k = 8 := by omega
                  subst hk88
                  go_wp2_with fail
                  refine (known03_calls wr).mono ?_
                  rintro en w12 ⟨rfl, hu12⟩
                  go_wp2_with fail
                  go_ret
                  exact ⟨rfl, HU.out.trans hu12⟩
end Go.Proofs.Ytehdigkjbobndaa
