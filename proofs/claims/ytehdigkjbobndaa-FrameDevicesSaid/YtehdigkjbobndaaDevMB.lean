/- Several texts in one: DevC, DevN, DevZ, DevF, DevQ, DevLd, OwnS, DevG, DevT, DevCalm. -/
import Derived.Test.YtehdigkjbobndaaDevMA
import Derived.Test.YtehdigkjbobndaaCrcM2
import Derived.Test.YtehdigkjbobndaaPlM
import Derived.Maps.AppendAt
/- Layer 3: Crash. -/
namespace Go.Proofs.Ytehdigkjbobndaa
open Go.RowKit
set_option maxRecDepth 100000

/-- A slice of what a crash keeps. -/
structure KeepsR (w : World) (A : Option Addr) (ks : List KeepS) : Prop where
  at_ : ∀ (i : Nat) (x : KeepS), ks[i]? = some x → ∃ b o, A = some ⟨b, o, none⟩ ∧ w.cell? ⟨b, o + i * 3, none⟩ = some (.int .i64 x.page) ∧ w.cell? ⟨b, o + i * 3 + 1, none⟩ = some (.int .i64 x.n) ∧ w.cell? ⟨b, o + i * 3 + 2, none⟩ = some (.int .i64 x.part)
  wf : ∀ x ∈ ks, KeepIn x
theorem KeepsR.upx {w w' : World} {F : Nat → Prop} {A : Option Addr} {ks : List KeepS} (h : KeepsR w A ks) (hu : UpX F w w') (hF : ∀ ad, A = some ad → 0 < ks.length → ¬ F ad.block) : KeepsR w' A ks :=
  ⟨fun i x hx => by
    obtain ⟨b, o, rfl, h1, h2, h3⟩ := h.at_ i x hx
    have hn : ¬ F b := hF _ rfl (by have := (List.getElem?_eq_some_iff.1 hx).1; omega)
    exact ⟨b, o, rfl, hu.cell h1 hn, hu.cell h2 hn, hu.cell h3 hn⟩, h.wf⟩
theorem KeepsR.up {w w' : World} {A : Option Addr} {ks : List KeepS} (h : KeepsR w A ks) (hu : Up w w') : KeepsR w' A ks := h.upx (hu.x fun _ => False) fun _ _ _ f => f
theorem crashOne_n (s : CrS) (k : KeepS) (M : Nat) (h : ∀ p, (s.wt p).length ≤ M) : (crashOne s k).n ≤ s.n + M ∧ ∀ p, ((crashOne s k).wt p).length ≤ M := by
  unfold crashOne
  split
  · exact ⟨by omega, h⟩
  · refine ⟨by simp only; have := h k.page; unfold kept; omega, fun p => ?_⟩
    simp only
    split
    · simp
    · exact h p
theorem crashAll_take (ks : List KeepS) (s : CrS) {k : Nat} {x : KeepS} (h : ks[k]? = some x) : crashAll (ks.take (k + 1)) s = crashOne (crashAll (ks.take k) s) x := by
  obtain ⟨hk, rfl⟩ := List.getElem?_eq_some_iff.1 h
  unfold crashAll
  rw [List.take_succ_eq_append_getElem hk, List.foldl_append]
  rfl
theorem crashAll_n (M : Nat) : ∀ (ks : List KeepS) (s : CrS), (∀ p, (s.wt p).length ≤ M) → (crashAll ks s).n ≤ s.n + ks.length * M
  | [], s, _ => by simp [crashAll]
  | k :: ks, s, h => by
    obtain ⟨h1, h2⟩ := crashOne_n s k M h
    have := crashAll_n M ks (crashOne s k) h2
    show (crashAll ks (crashOne s k)).n ≤ _
    rw [List.length_cons, Nat.succ_mul]
    omega
/-- Crash. -/
def crashS (s : DSt) (ks : List KeepS) : DSt := { s with off := true, pg := (crashAll ks ⟨s.pg, s.wt, 0⟩).pg, wt := fun _ => [] }
def crashN (s : DSt) (ks : List KeepS) : Nat := (crashAll ks ⟨s.pg, s.wt, 0⟩).n
abbrev crSt (s : DSt) (c : CrS) : DSt := { s with pg := c.pg, wt := c.wt }
set_option maxHeartbeats 4000000 in
theorem devCrash_calls (g : Nat) (S : Nat → Prop) (s : DSt) (B : Option Addr) (c : Nat) (ks : List KeepS) (w : World) (h : DevI w g S s) (hk : KeepsR w B ks) (hB : ∀ ad, B = some ad → 0 < ks.length → ¬ S ad.block) (hl : ks.length ≤ 1000) (hwr : s.wr < 1000000000000) :
    Calls Try.prog 23 #[.pointer (some ⟨g, 0, none⟩), .slice B ks.length c] w fun e w' => e = .returned (.int .i64 (crashN s ks)) ∧ DevI w' g S (crashS s ks) ∧ UpX S w w' := by
  have HI := Lib.hid h
  have HW := Lib.hid hwr
  have HB := Lib.hid hB
  have HL := Lib.hid fun k => (show (crashAll (ks.take k) ⟨s.pg, s.wt, 0⟩).n ≤ 1000000000000000 by
    have h1 := crashAll_n s.wr (ks.take k) ⟨s.pg, s.wt, 0⟩ (fun p => h.ok.wmax p)
    have h2 : (ks.take k).length * s.wr ≤ 1000 * 1000000000000 := Nat.mul_le_mul (by rw [List.length_take]; omega) (by omega)
    simp only [Nat.zero_add] at h1
    omega)
  have HO := Lib.hid h.ok
  clear h hB hwr
  go_enter Try.func23, Try.ntmps23
  go_wp2_with fail
  go_loopw [5, 7, 12] (fun nv _ i wr => ∃ k : Nat, k ≤ ks.length ∧ i = .int .i64 k ∧ nv = .int .i64 ((crashAll (ks.take k) ⟨s.pg, s.wt, 0⟩).n : Nat) ∧ Hid (DevI wr g S (crSt s (crashAll (ks.take k) ⟨s.pg, s.wt, 0⟩))) ∧ UpX S w wr) (fun _ _ i _ => ks.length - (intOf i).toNat)
  case atStart => exact ⟨0, Nat.zero_le _, rfl, rfl, HI, UpX.refl _ _⟩
  case round =>
    clear HI
    obtain ⟨k, hkl, rfl, rfl, HD, hu⟩ := hrel
    by_cases hlt : k < ks.length
    · obtain ⟨z, hz⟩ : ∃ z, ks[k]? = some z := ⟨_, List.getElem?_eq_getElem hlt⟩
      have HS := Lib.hid (crashAll_take ks ⟨s.pg, s.wt, 0⟩ hz)
      have hle := HL.out k
      have hle1 := HL.out (k + 1)
      obtain ⟨bz, oz, rfl, q0, q1, q2⟩ := hk.at_ k z hz
      have hbz : ¬ S bz := HB.out _ rfl (by omega)
      replace q0 := hu.cell q0 hbz
      replace q1 := hu.cell q1 hbz
      replace q2 := hu.cell q2 hbz
      have hzi := hk.wf z (List.mem_of_getElem? hz)
      generalize hcA : crashAll (ks.take k) ⟨s.pg, s.wt, 0⟩ = cA at *
      generalize hcB : crashAll (ks.take (k + 1)) ⟨s.pg, s.wt, 0⟩ = cB at *
      have HCB := Lib.hid hcB
      clear hz hcA hcB
      have hX0 := Blk.new wr 104 #[.int .i64 0, .int .i64 0, .int .i64 0]
      have z0 := hX0.cell 0
      have z1 := hX0.cell 1
      have z2 := hX0.cell 2
      simp only [List.getElem?_toArray, List.getElem?_cons_succ, List.getElem?_cons_zero] at z0 z1 z2
      have y0 := hX0.frozen 0
      have y1 := hX0.frozen 1
      have y2 := hX0.frozen 2
      clear hX0
      have hua : Up wr (wr.alloc (.cells #[Value.int .i64 z.page, .int .i64 z.n, .int .i64 z.part] 104)) := (Up.refl wr).alloc _
      have hBx := Blk.new wr 104 #[Value.int .i64 z.page, .int .i64 z.n, .int .i64 z.part]
      go_wp2_with fail
      clear z0 z1 z2 y0 y1 y2 q0 q1 q2
      have hd0 := HD.out.up hua
      have hrS : ∀ b, S b → b < wr.heap.size := HD.out.lt
      generalize wr.alloc (.cells #[Value.int .i64 z.page, .int .i64 z.n, .int .i64 z.part] 104) = w1 at *
      generalize wr.heap.size = r at *
      have c0 : w1.cell? ⟨r, 0, none⟩ = some (.int .i64 z.page) := hBx.cell 0
      have c1 : w1.cell? ⟨r, 1, none⟩ = some (.int .i64 z.n) := hBx.cell 1
      have c2 : w1.cell? ⟨r, 2, none⟩ = some (.int .i64 z.part) := hBx.cell 2
      have HU1 := Lib.hid (hu.trans (hua.x S))
      obtain ⟨gl, cap, bm, n, f, hd⟩ := hd0.out
      have g7 : w1.cell? ⟨g, 7, none⟩ = some (.map (some bm)) := hd.b.cell 7
      have hlk : ∀ w', Up w1 w' → (Instr.lookup 91 (.map (some bm)) (.int .i64 z.page) false).run Try.prog w' = .ok ((f z.page).getD (.slice none 0 0)) w' := fun w' hu => (hd.up hu).look z.page hzi.page
      have HLK := Lib.hid hlk
      have HDX := Lib.hid hd
      have hfz : ∃ A d, (f z.page).getD (.slice none 0 0) = .slice A (cA.wt z.page).length d ∧ (cA.wt z.page).length ≤ 9223372036854775807 := by
        rcases hd.wts.at_ z.page with ⟨h1, h2⟩ | ⟨v', h1, h2, h3⟩
        · exact ⟨none, 0, by rw [h1]; rw [show (crSt s cA).wt z.page = cA.wt z.page from rfl] at h2; rw [h2]; rfl, by rw [show (crSt s cA).wt z.page = cA.wt z.page from rfl] at h2; rw [h2]; simp⟩
        · obtain ⟨A, d, rfl, _, h5⟩ := h3.slice
          exact ⟨A, d, by rw [h1]; rfl, h5.mx⟩
      obtain ⟨A, d, hf1, hmx⟩ := hfz
      rw [hf1] at HLK
      obtain ⟨m, hm⟩ : ∃ m, (cA.wt z.page).length = m := ⟨_, rfl⟩
      rw [hm] at HLK hmx
      have HM := Lib.hid hm
      have HKP := Lib.hid fun w9 (h9 : DevI w9 g S (crSt s cA)) hw => devkeep_calls g S (crSt s cA) z w9 h9 hzi hw
      clear hm hlk hf1 hd hd0 hua hu HD hBx
      refine wp_region_tree (fun w9 => Up w1 w9) (.quiet 0 (.quiet 1 (.quiet 2 (.quiet 3 (.quiet 4 (.quiet 5 (.quiet 6 (.quiet 7 (.quiet 8 (.nil)))))))))) (by kernel_rfl) (by kernel_rfl) rfl (by kernel_rfl) (by kernel_rfl) ((Up.refl w1).drew) ?_
      simp only [pickT, List.getElem?_cons_succ, List.getElem?_cons_zero, Option.getD_some]
      repeat (refine tree_step rfl (fun K hK => ?_); go_big_quiet_step ((intro _; rfl)); refine wpQuiet_nil (hK _ ?_); clear hK K)
      refine tree_load ⟨g, 7, none⟩ (.map (some bm)) (by kernel_rfl) rfl (by kernel_rfl) (fun w' h => h.cell g7) ?_
      dsimp only [Act.put]
      simp only [List.setIfInBounds_toArray, List.set_cons_zero, List.set_cons_succ]
      repeat (refine tree_step rfl (fun K hK => ?_); go_big_quiet_step ((intro _; rfl)); refine wpQuiet_nil (hK _ ?_); clear hK K)
      refine tree_load ⟨r, 0, none⟩ (.int .i64 z.page) (by kernel_rfl) rfl (by kernel_rfl) (fun w' h => h.cell c0) ?_
      dsimp only [Act.put]
      simp only [List.setIfInBounds_toArray, List.set_cons_zero, List.set_cons_succ]
      repeat (refine tree_step rfl (fun K hK => ?_); go_big_quiet_step ((intro _; rfl)); refine wpQuiet_nil (hK _ ?_); clear hK K)
      refine tree_lookup bm z.page (.slice A m d) (by kernel_rfl) rfl rfl HLK.out ?_
      dsimp only [Act.put]
      simp only [List.setIfInBounds_toArray, List.set_cons_zero, List.set_cons_succ]
      repeat (refine tree_step rfl (fun K hK => ?_); go_big_quiet_step ((intro _; rfl)); refine wpQuiet_nil (hK _ ?_); clear hK K)
      refine tree_nil ?_
      have hud : Up w1 w1.drew := (Up.refl w1).drew
      by_cases hm0 : m = 0
      · have HE := Lib.hid (show cB = cA by
          rw [HS.out]
          unfold crashOne
          rw [if_pos (List.eq_nil_of_length_eq_zero (by rw [HM.out, hm0]))])
        subst hm0
        go_wp2_with fail
        go_roundw
        case rel => exact ⟨k + 1, by omega, by simp, by rw [HCB.out, HE.out], Lib.hid (by rw [HCB.out, HE.out]; exact ⟨_, _, _, _, _, HDX.out.up hud⟩), HU1.out.trans (hud.x S)⟩
        case measure => simp [intOf]; omega
      · have hmp : 0 < m := by omega
        have hmb : (0 : Int) < (m : Int) := by omega
        have hwn : cA.wt z.page ≠ [] := fun e => by have := HM.out; rw [e] at this; simp at this; omega
        have HKC := Lib.hid (HKP.out w1.drew ⟨_, _, _, _, _, HDX.out.up hud⟩ hwn)
        have d0 : w1.drew.cell? ⟨r, 0, none⟩ = some (.int .i64 z.page) := c0
        have d1 : w1.drew.cell? ⟨r, 1, none⟩ = some (.int .i64 z.n) := c1
        have d2 : w1.drew.cell? ⟨r, 2, none⟩ = some (.int .i64 z.part) := c2
        clear HKP hm0
        have HE := Lib.hid (show cB.n = cA.n + kept z (cA.wt z.page).length ∧ keepS (crSt s cA) z = crSt s cB by
          rw [HS.out]
          unfold crashOne
          rw [if_neg hwn]
          exact ⟨rfl, rfl⟩)
        have hks : kept z (cA.wt z.page).length ≤ 1000000000000000 := by have := HE.out.1; omega
        rw [show (crSt s cA).wt z.page = cA.wt z.page from rfl] at HKC
        generalize kept z (cA.wt z.page).length = kz at *
        clear hwn
        go_wp2_with fail
        refine (HKC.out).mono ?_
        rintro en w2 ⟨rfl, hd2, hx2⟩
        rw [HE.out.2] at hd2
        have HD2 := Lib.hid hd2
        clear hd2
        go_wp2_with fail
        go_roundw
        case rel => exact ⟨k + 1, by omega, by simp, by rw [HCB.out, HE.out.1]; simp, Lib.hid (by rw [HCB.out]; exact HD2.out), (HU1.out.trans (hud.x S)).trans hx2⟩
        case measure => simp [intOf]; omega
    · have hke : k = ks.length := by omega
      subst hke
      rw [List.take_length] at HD
      have hle := HL.out ks.length
      rw [List.take_length] at hle
      have hTL : ks.take ks.length = ks := List.take_length
      have HTL := Lib.hid hTL
      clear hTL
      rw [HTL.out]
      have HN := Lib.hid (show crashN s ks = (crashAll ks ⟨s.pg, s.wt, 0⟩).n from rfl)
      have HSS := Lib.hid (show crashS s ks = { s with off := true, pg := (crashAll ks ⟨s.pg, s.wt, 0⟩).pg, wt := fun _ => [] } from rfl)
      generalize crashAll ks ⟨s.pg, s.wt, 0⟩ = cA at *
      obtain ⟨gl, cap, bm, n, f, hd⟩ := HD.out.out
      have g7 : wr.cell? ⟨g, 7, none⟩ = some (.map (some bm)) := hd.b.cell 7
      have hmap := hd.map
      have HDX := Lib.hid hd
      clear HD hd
      have HC5 := Lib.hid fun w5 hx5 hm5 => HDX.out.cleared (w' := w5) hx5 hm5
      go_wp2_with (refine wpl_mapClear wr rfl _ 91 3 rfl 55 Try.underlying91 bm n f rfl hmap ?_; intro w5 hm5 hx5; have e0 : w5.cell? ⟨g, 0, none⟩ = some (.bool s.off) := (HC5.out w5 hx5 hm5).b.cell 0; have e1 := (HC5.out w5 hx5 hm5).b.frozen 0)
      go_ret
      have hd5 := HC5.out w5 hx5 hm5
      have hfin := hd5.cells (s' := { s with off := true, pg := cA.pg, wt := fun _ => [] }) (UpX.one w5 g 0 (.bool true)) (hd5.b.set 0 (.bool true)) rfl rfl (Nat.le_refl _) hd5.ok.left
      refine ⟨?_, ⟨_, _, _, _, _, by rw [HSS.out]; exact hfin⟩, ?_⟩
      · rw [HN.out]; rfl
      · exact (hu.trans (hx5.mono fun b _ e => by subst e; exact HDX.out.sbm)).trans ((UpX.one w5 g 0 (.bool true)).mono fun b _ e => by subst e; exact HDX.out.sg)
end Go.Proofs.Ytehdigkjbobndaa

/- Layer 3: Power, Arm, Load, New; a device that is nil. -/
namespace Go.Proofs.Ytehdigkjbobndaa
open Go.RowKit
set_option maxRecDepth 100000

/-- Power. -/
def powerS (s : DSt) : DSt := { s with off := false, armed := false, left := 0, wt := fun _ => [] }
set_option maxHeartbeats 1000000 in
theorem devPower_calls (g : Nat) (S : Nat → Prop) (s : DSt) (w : World) (h : DevI w g S s) :
    Calls Try.prog 24 #[.pointer (some ⟨g, 0, none⟩)] w fun e w' => e = .returned (.tuple #[]) ∧ DevI w' g S (powerS s) ∧ UpX S w w' := by
  obtain ⟨gl, cap, bm, n, f, hd⟩ := h.out
  have g0 : w.cell? ⟨g, 0, none⟩ = some (.bool s.off) := hd.b.cell 0
  have g1 : w.cell? ⟨g, 1, none⟩ = some (.bool s.armed) := hd.b.cell 1
  have g2 : w.cell? ⟨g, 2, none⟩ = some (.int .i64 s.left) := hd.b.cell 2
  have f0 := hd.b.frozen 0
  have f1 := hd.b.frozen 1
  have f2 := hd.b.frozen 2
  have g7 : w.cell? ⟨g, 7, none⟩ = some (.map (some bm)) := hd.b.cell 7
  have hx3 : UpX (fun b => b = g) w (((w.setCell ⟨g, 0, none⟩ (.bool false)).setCell ⟨g, 1, none⟩ (.bool false)).setCell ⟨g, 2, none⟩ (.int .i64 0)) := ((UpX.one w g 0 _).trans (UpX.one _ g 1 _)).trans (UpX.one _ g 2 _)
  have hd3 : DevX (((w.setCell ⟨g, 0, none⟩ (.bool false)).setCell ⟨g, 1, none⟩ (.bool false)).setCell ⟨g, 2, none⟩ (.int .i64 0)) g S { s with off := false, armed := false, left := 0 } gl cap bm n f :=
    hd.cells hx3 (((hd.b.set 0 (.bool false)).set 1 (.bool false)).set 2 (.int .i64 0)) rfl rfl (Nat.le_refl _) (InK.of_i64 (show (-9223372036854775808 : Int) ≤ 0 by decide) (show (0 : Int) ≤ 9223372036854775807 by decide))
  have HD3 := Lib.hid hd3
  have HX3 := Lib.hid hx3
  clear h hd hd3 hx3
  go_enter Try.func24, Try.ntmps24
  go_wp2_with (refine wpl_mapClear _ rfl _ 91 3 rfl 55 Try.underlying91 bm n f rfl HD3.out.map ?_; intro w5 hm5 hx5)
  refine bodyPost_end (results_none rfl _ _ _) rfl ?_
  exact ⟨rfl, ⟨_, _, _, _, _, HD3.out.cleared hx5 hm5⟩, (HX3.out.mono fun b _ e => by subst e; exact HD3.out.sg).trans (hx5.mono fun b _ e => by subst e; exact HD3.out.sbm)⟩
set_option maxHeartbeats 1000000 in
theorem devArm_calls (g : Nat) (S : Nat → Prop) (s : DSt) (x : Int) (w : World) (h : DevI w g S s) (hx : InK .i64 x) :
    Calls Try.prog 31 #[.pointer (some ⟨g, 0, none⟩), .int .i64 x] w fun e w' => e = .returned (.tuple #[]) ∧ DevI w' g S { s with armed := decide (0 ≤ x), left := x } ∧ UpX (fun b => b = g) w w' := by
  obtain ⟨gl, cap, bm, n, f, hd⟩ := h.out
  have HA := Lib.hid (powArm_calls g S s gl cap bm n f x w hd hx)
  clear h hd
  go_enter Try.func31, Try.ntmps31
  go_wp2_with fail
  refine (HA.out).mono ?_
  rintro en w1 ⟨rfl, hd, hx⟩
  have HD := Lib.hid hd
  clear hd
  go_wp2_with fail
  refine bodyPost_end (results_none rfl _ _ _) rfl ?_
  exact ⟨rfl, ⟨_, _, _, _, _, HD.out⟩, hx⟩
/-- A device of an image. -/
def newS (pg : List (List Int)) : DSt := ⟨false, false, 0, 0, 0, 0, pg, fun _ => []⟩
structure DevMade (w : World) (pg : List (List Int)) (en : Ending) (w' : World) : Prop where mk ::
  out : ∃ g S, en = .returned (.tuple #[.pointer (some ⟨g, 0, none⟩), .int .i64 0]) ∧ DevI w' g S (newS pg) ∧ Up w w' ∧ ∀ b, S b → w.heap.size ≤ b
set_option maxHeartbeats 1000000 in
theorem devLoad_ok (A : Option Addr) (c : Nat) (pg : List (List Int)) (w : World) (hr : Rd w .u8 A c pg.flatten) (hp : ∀ p ∈ pg, p.length = 256) (h1 : 1 ≤ pg.length) (h2 : pg.length ≤ 2048) :
    Calls Try.prog 12 #[.slice A (256 * pg.length) c] w (DevMade w pg) := by
  have hlen := flatten_len hp
  have HC := Lib.hid (bytesClone_n hr (by omega) hlen.symm)
  have HP := Lib.hid hp
  have HL := Lib.hid hlen
  clear hr hp hlen
  generalize hm : pg.length = m at *
  have HM := Lib.hid hm
  clear hm
  have hd1 : ((256 * m : Nat) : Int).tdiv 256 = (m : Int) := by
    rw [Int.tdiv_eq_ediv_of_nonneg (by omega)]; omega
  have hd2 : decide ((m : Int) < 1) = false := decide_eq_false (by omega)
  have hd3 : decide (2048 < (m : Int)) = false := decide_eq_false (by omega)
  have hmm := @run_makeMap Try.prog
  go_enter Try.func12, Try.ntmps12
  go_wp2_with fail
  refine (HC.out).mono ?_
  rintro en w1 ⟨v, rfl, hv, hu⟩
  have hv2 : ∃ gl cap, v = .slice (some ⟨gl, 0, none⟩) (256 * m) cap ∧ w.heap.size ≤ gl := by
    have hr := hv.row
    rw [HL.out] at hr
    rcases hr.2 with ⟨_, h0⟩ | ⟨gl, cap, cur, h0, hb, _⟩
    · omega
    · exact ⟨gl, cap, h0, hb⟩
  obtain ⟨gl, cap, rfl, hgl⟩ := hv2
  have hgl2 := (hv.lt gl rfl).2
  have HV := Lib.hid hv
  clear hv
  go_wp2_with fail
  have hu2 : Up w1 (w1.alloc (.map #[] 0)) := (Up.refl _).alloc _
  have hm2 := MapI.made Try.prog 3 w1
  have hs2 : (w1.alloc (.map #[] 0)).heap.size = w1.heap.size + 1 := by simp
  generalize w1.alloc (.map #[] 0) = w2 at *
  have hu3 : Up w2 (w2.alloc (.cells #[Value.bool false, .bool false, .int .i64 0, .int .i64 0, .int .i64 0, .int .i64 0, .slice (some ⟨gl, 0, none⟩) (256 * m) cap, .map (some w1.heap.size)] 102)) := (Up.refl _).alloc _
  have hb3 := Blk.new w2 102 #[Value.bool false, .bool false, .int .i64 0, .int .i64 0, .int .i64 0, .int .i64 0, .slice (some ⟨gl, 0, none⟩) (256 * m) cap, .map (some w1.heap.size)]
  have hs3 : (w2.alloc (.cells #[Value.bool false, .bool false, .int .i64 0, .int .i64 0, .int .i64 0, .int .i64 0, .slice (some ⟨gl, 0, none⟩) (256 * m) cap, .map (some w1.heap.size)] 102)).heap.size = w2.heap.size + 1 := by simp
  generalize w2.alloc (.cells #[Value.bool false, .bool false, .int .i64 0, .int .i64 0, .int .i64 0, .int .i64 0, .slice (some ⟨gl, 0, none⟩) (256 * m) cap, .map (some w1.heap.size)] 102) = w3 at *
  rw [hs2] at hb3 hs3
  go_ret2
  have hsz := hu.size
  have hM := HM.out
  refine ⟨w1.heap.size + 1, fun b => w.heap.size ≤ b ∧ b < w3.heap.size, rfl, ⟨gl, cap, w1.heap.size, 0, fun _ => none, ?_, ?_, (hm2.up hu3), Nat.zero_le _, ⟨fun p => .inl ⟨rfl, rfl⟩, fun p q u v hu => (by cases hu)⟩, ⟨by omega, by omega⟩, ⟨hgl, by omega⟩, ⟨by omega, by omega⟩, by omega, by omega, by omega, fun b hb => hb.2, ⟨HP.out, by show 1 ≤ pg.length; omega, by show pg.length ≤ 2048; omega, fun p l hl => (by cases hl), fun p hp => absurd rfl hp, InK.of_i64 (show (-9223372036854775808 : Int) ≤ 0 by decide) (show (0 : Int) ≤ 9223372036854775807 by decide), fun p => Nat.zero_le _⟩⟩, (hu.trans hu2).trans hu3, fun b hb => hb.1⟩
  · show Blk w3 (w1.heap.size + 1) 102 #[Value.bool false, .bool false, .int .i64 0, .int .i64 0, .int .i64 0, .int .i64 0, .slice (some ⟨gl, 0, none⟩) (256 * pg.length) cap, .map (some w1.heap.size)]
    rw [hM]
    exact hb3
  · show Own w3 0 5 .u8 (.slice (some ⟨gl, 0, none⟩) (256 * pg.length) cap) pg.flatten
    rw [hM]
    exact ((HV.out.up hu2).up hu3).mono (Nat.zero_le _)
set_option maxHeartbeats 1000000 in
theorem devLoad_bad (A : Option Addr) (c n : Nat) (w : World) (hn : n ≤ 9223372036854775807) (hb : n / 256 < 1 ∨ 2048 < n / 256 ∨ n ≠ n / 256 * 256) :
    Calls Try.prog 12 #[.slice A n c] w fun e w' => e = .returned (.tuple #[.pointer none, .int .i64 1]) ∧ w' = w := by
  have hd1 : ((n : Nat) : Int).tdiv 256 = ((n / 256 : Nat) : Int) := by
    rw [Int.tdiv_eq_ediv_of_nonneg (by omega)]; omega
  have hmul : n / 256 * 256 ≤ n := Nat.div_mul_le_self _ _
  generalize n / 256 = m at *
  by_cases h1 : m < 1
  · have hd2 : decide ((m : Int) < 1) = true := decide_eq_true (by omega)
    clear hb
    go_enter Try.func12, Try.ntmps12
    go_wp2_with fail
    go_ret2
    exact ⟨rfl, rfl⟩
  · have hd2 : decide ((m : Int) < 1) = false := decide_eq_false (by omega)
    by_cases h2 : 2048 < m
    · have hd3 : decide (2048 < (m : Int)) = true := decide_eq_true (by omega)
      clear hb
      go_enter Try.func12, Try.ntmps12
      go_wp2_with fail
      go_ret2
      exact ⟨rfl, rfl⟩
    · have hd3 : decide (2048 < (m : Int)) = false := decide_eq_false (by omega)
      have hne : (((n : Nat) : Int) != (m : Int) * 256) = true := by
        have : n ≠ m * 256 := by rcases hb with h | h | h; omega; omega; exact h
        simp
        omega
      clear hb
      go_enter Try.func12, Try.ntmps12
      go_wp2_with fail
      go_ret2
      exact ⟨rfl, rfl⟩
end Go.Proofs.Ytehdigkjbobndaa

/- Layer 3: New; a device that is nil. -/
namespace Go.Proofs.Ytehdigkjbobndaa
open Go.RowKit
set_option maxRecDepth 100000

def zeroPg (n : Nat) : List (List Int) := List.replicate n (List.replicate 256 0)
theorem zeroPg_flat (n : Nat) : (zeroPg n).flatten = List.replicate (256 * n) 0 := by
  unfold zeroPg
  rw [List.flatten_replicate_replicate, Nat.mul_comm]
set_option maxHeartbeats 1000000 in
theorem devNew_ok (n : Nat) (w : World) (h1 : 1 ≤ n) (h2 : n ≤ 2048) : Calls Try.prog 18 #[.int .i64 n] w (DevMade w (zeroPg n)) := by
  have hd2 : decide ((n : Int) < 1) = false := decide_eq_false (by omega)
  have hd3 : decide (2048 < (n : Int)) = false := decide_eq_false (by omega)
  go_enter Try.func18, Try.ntmps18
  go_wp2_with (refine wpl_make w.heap.size 5 .u8 1 Try.underlying22 infoU8 (256 * n) (by first | rfl | (show Value.int _ _ = _; congr 1; omega)) (by first | rfl | (show Value.int _ _ = _; congr 1; omega)) (by omega) (by omega) (Nat.le_refl _) ?_; intro w1 ho1 hu1 hs1)
  have hr1 : Rd w1 .u8 (some ⟨w.heap.size, 0, none⟩) (256 * n) (zeroPg n).flatten := by
    obtain ⟨A, c, e, hr⟩ := ho1.rd
    injection e with e1 _ e3
    subst e1 e3
    rw [zeroPg_flat]
    exact hr
  have HL := Lib.hid (devLoad_ok (some ⟨w.heap.size, 0, none⟩) (256 * n) (zeroPg n) w1 hr1 (fun p hp => by rw [List.eq_of_mem_replicate hp]; simp) (by unfold zeroPg; rw [List.length_replicate]; exact h1) (by unfold zeroPg; rw [List.length_replicate]; exact h2))
  rw [show (zeroPg n).length = n by unfold zeroPg; rw [List.length_replicate]] at HL
  clear hr1 ho1
  refine (HL.out).mono ?_
  rintro en w2 ⟨g, S, rfl, hd, hu, hS⟩
  have HD := Lib.hid hd
  clear hd
  go_wp2_with fail
  go_ret2
  exact ⟨g, S, rfl, HD.out, hu1.trans hu, fun b hb => by have := hS b hb; have := hu1.size; omega⟩
theorem devNew_bad (n : Int) (w : World) (h : n < 1 ∨ 2048 < n) : Calls Try.prog 18 #[.int .i64 n] w fun e w' => e = .returned (.tuple #[.pointer none, .int .i64 1]) ∧ w' = w := by
  by_cases h1 : n < 1
  · clear h
    go_enter Try.func18, Try.ntmps18
    go_wp2_with fail
    go_ret2
    exact ⟨rfl, rfl⟩
  · have h2 : 2048 < n := by omega
    have hd1 : decide (n < 1) = false := decide_eq_false h1
    clear h
    go_enter Try.func18, Try.ntmps18
    go_wp2_with fail
    go_ret2
    exact ⟨rfl, rfl⟩

theorem devOn_nil (w : World) : Calls Try.prog 25 #[.pointer none] w fun e w' => e = .returned (.bool false) ∧ w' = w := by
  go_enter Try.func25, Try.ntmps25
  go_wp2_with fail
  go_ret
  exact ⟨rfl, rfl⟩
theorem devPages_nil (w : World) : Calls Try.prog 14 #[.pointer none] w fun e w' => e = .returned (.int .i64 0) ∧ w' = w := by
  go_enter Try.func14, Try.ntmps14
  go_wp2_with fail
  go_ret
  exact ⟨rfl, rfl⟩
theorem devCheck_nil (no : Int) (w : World) : Calls Try.prog 54 #[.pointer none, .int .i64 no] w fun e w' => e = .returned (.int .i64 9) ∧ w' = w := by
  have hnot : ∀ (x : Bool) (w : World), (Op.unary .not (.bool x)).run Try.prog w = .ok (.bool (!x)) w := fun _ _ => rfl
  go_enter Try.func54, Try.ntmps54
  go_wp2_with fail
  refine (devOn_nil w).mono ?_
  rintro en w1 ⟨rfl, rfl⟩
  go_wp2_with fail
  go_ret
  exact ⟨rfl, rfl⟩
theorem devRead_nil (no : Int) (w : World) : Calls Try.prog 17 #[.pointer none, .int .i64 no] w fun e w' => e = .returned (.tuple #[.slice none 0 0, .int .i64 9]) ∧ w' = w := by
  go_enter Try.func17, Try.ntmps17
  go_wp2_with fail
  refine (devCheck_nil no w).mono ?_
  rintro en w1 ⟨rfl, rfl⟩
  go_wp2_with fail
  go_ret2
  exact ⟨rfl, rfl⟩
theorem devWrite_nil (no : Int) (A : Option Addr) (n c : Nat) (w : World) : Calls Try.prog 19 #[.pointer none, .int .i64 no, .slice A n c] w fun e w' => e = .returned (.int .i64 9) ∧ w' = w := by
  go_enter Try.func19, Try.ntmps19
  go_wp2_with fail
  refine (devCheck_nil no w).mono ?_
  rintro en w1 ⟨rfl, rfl⟩
  go_wp2_with fail
  go_ret
  exact ⟨rfl, rfl⟩
theorem devSync_nil (w : World) : Calls Try.prog 21 #[.pointer none] w fun e w' => e = .returned (.int .i64 9) ∧ w' = w := by
  have hnot : ∀ (x : Bool) (w : World), (Op.unary .not (.bool x)).run Try.prog w = .ok (.bool (!x)) w := fun _ _ => rfl
  go_enter Try.func21, Try.ntmps21
  go_wp2_with fail
  refine (devOn_nil w).mono ?_
  rintro en w1 ⟨rfl, rfl⟩
  go_wp2_with fail
  go_ret
  exact ⟨rfl, rfl⟩
theorem devCrash_nil (A : Option Addr) (n c : Nat) (w : World) : Calls Try.prog 23 #[.pointer none, .slice A n c] w fun e w' => e = .returned (.int .i64 0) ∧ w' = w := by
  go_enter Try.func23, Try.ntmps23
  go_wp2_with fail
  go_ret
  exact ⟨rfl, rfl⟩
theorem devPower_nil (w : World) : Calls Try.prog 24 #[.pointer none] w fun e w' => e = .returned (.tuple #[]) ∧ w' = w := by
  go_enter Try.func24, Try.ntmps24
  go_wp2_with fail
  refine bodyPost_end (results_none rfl _ _ _) rfl ?_
  exact ⟨rfl, rfl⟩
theorem devArm_nil (n : Int) (w : World) : Calls Try.prog 31 #[.pointer none, .int .i64 n] w fun e w' => e = .returned (.tuple #[]) ∧ w' = w := by
  go_enter Try.func31, Try.ntmps31
  go_wp2_with fail
  refine bodyPost_end (results_none rfl _ _ _) rfl ?_
  exact ⟨rfl, rfl⟩
theorem devWaiting_nil (w : World) : Calls Try.prog 34 #[.pointer none] w fun e w' => e = .returned (.int .i64 0) ∧ w' = w := by
  go_enter Try.func34, Try.ntmps34
  go_wp2_with fail
  go_ret
  exact ⟨rfl, rfl⟩
theorem devCounts_nil (w : World) : Calls Try.prog 33 #[.pointer none] w fun e w' => e = .returned (.tuple #[.int .i64 0, .int .i64 0, .int .i64 0]) ∧ w' = w := by
  go_enter Try.func33, Try.ntmps33
  go_wp2_with fail
  go_ret3
  exact ⟨rfl, rfl⟩
theorem devImage_nil (w : World) : Calls Try.prog 16 #[.pointer none] w fun e w' => e = .returned (.slice none 0 0) ∧ w' = w := by
  go_enter Try.func16, Try.ntmps16
  go_wp2_with fail
  go_ret
  exact ⟨rfl, rfl⟩
end Go.Proofs.Ytehdigkjbobndaa

/- Layer 3: Full, the chapter's example. -/
namespace Go.Proofs.Ytehdigkjbobndaa
open Go.RowKit
set_option maxRecDepth 100000

/-- Bytes filled up to a page, or cut: so many are laid. -/
def fullK (l : List Int) (k : Nat) : List Int := l.take k ++ List.replicate (256 - k) 0
def full (l : List Int) : List Int := fullK l (min l.length 256)
theorem fullK_len (l : List Int) {k : Nat} (h1 : k ≤ l.length) (h2 : k ≤ 256) : (fullK l k).length = 256 := by
  unfold fullK
  rw [List.length_append, List.length_take, List.length_replicate]
  omega
theorem full_len (l : List Int) : (full l).length = 256 := fullK_len l (Nat.min_le_left _ _) (Nat.min_le_right _ _)
theorem fullK_set (l : List Int) {k : Nat} (h1 : k < l.length) (h2 : k < 256) : (fullK l k).set k (l.getD k 0) = fullK l (k + 1) := by
  unfold fullK
  rw [List.set_append_right _ _ (by rw [List.length_take]; omega), List.length_take, show k - min k l.length = 0 by omega, show 256 - k = (256 - (k + 1)) + 1 by omega, List.replicate_succ, List.set_cons_zero, take_succ_getD l k 0 h1]
  simp
set_option maxHeartbeats 1000000 in
theorem law03Full_calls (A : Option Addr) (c : Nat) (l : List Int) (w : World) (h : Rd w .u8 A c l) : Calls Try.prog 20 #[.slice A l.length c] w (RetOwn w 5 .u8 (full l)) := by
  have hmx := h.mx
  go_enter Try.func20, Try.ntmps20
  go_wp2_with (refine wpl_make w.heap.size 5 .u8 1 Try.underlying22 infoU8 256 rfl rfl (by decide) (by decide) (Nat.le_refl _) ?_; intro w1 ho1 hu1 hs1)
  go_loopw [4] (fun i wr => ∃ k : Nat, k ≤ l.length ∧ k ≤ 256 ∧ i = .int .i64 k ∧ Own wr w.heap.size 5 .u8 (.slice (some ⟨w.heap.size, 0, none⟩) 256 256) (fullK l k) ∧ Up w wr) (fun i _ => l.length - (intOf i).toNat)
  case atStart => exact ⟨0, by omega, by omega, rfl, by simpa [fullK] using ho1, hu1⟩
  case round =>
    clear ho1
    obtain ⟨k, hk1, hk2, rfl, ho, hu⟩ := hrel
    by_cases h1 : k < l.length
    · by_cases h2 : k < 256
      · obtain ⟨ad, x, rfl, hc, hg, hx⟩ := h.get k h1
        replace hc := hu.cell hc
        obtain ⟨g, c2, e, hb, hc2, hf2, hst⟩ := ho.store k (by rw [fullK_len l hk1 hk2]; exact h2)
        injection e with e1 _ e3
        injection e1 with e1
        injection e1 with e1 _ _
        subst e1 e3
        have HS := Lib.hid (fullK_set l h1 h2)
        rw [hg.out] at HS
        have HO := Lib.hid (hst x hx)
        clear hst ho hg
        go_wp2_with fail
        go_roundw
        case rel => exact ⟨k + 1, by omega, by omega, by simp, by rw [← HS.out]; exact HO.out, hu.setCell (by simp) _⟩
        case measure => simp [intOf]; omega
      · have hd : decide ((k : Int) < 256) = false := decide_eq_false (by omega)
        have HE := Lib.hid (show full l = fullK l k by unfold full; congr 1; omega)
        go_wp2_with fail
        go_ret
        exact RetOwn.of (by rw [HE.out]; exact ho) hu
    · have hd : decide ((k : Int) < (l.length : Int)) = false := decide_eq_false (by omega)
      have HE := Lib.hid (show full l = fullK l k by unfold full; congr 1; omega)
      go_wp2_with fail
      go_ret
      exact RetOwn.of (by rw [HE.out]; exact ho) hu
end Go.Proofs.Ytehdigkjbobndaa

/- Layer 3: the chapter's example; a nil device (DeviceNil). -/
namespace Go.Proofs.Ytehdigkjbobndaa
open Go.RowKit
set_option maxRecDepth 100000

/-- A device of one's own, its blocks below M. -/
structure DevO (w0 : World) (M : Nat) (w : World) (g : Nat) (s : DSt) : Prop where mk ::
  out : ∃ S, DevI w g S s ∧ (∀ b, S b → w0.heap.size ≤ b ∧ b < M) ∧ Up w0 w
theorem DevTo.o {w0 w w' : World} {g : Nat} {S : Nat → Prop} {s' : DSt} (h : DevTo w g S s' w') (hS : ∀ b, S b → w0.heap.size ≤ b) (hu : Up w0 w) : DevO w0 w'.heap.size w' g s' := by
  obtain ⟨S', h1, h2, h3⟩ := h.out
  refine ⟨S', h1, fun b hb => ⟨?_, h1.lt b hb⟩, hu.thenx h2 fun i hi e => by have := hS i e; omega⟩
  rcases h3 b hb with h4 | h4
  · exact hS b h4
  · have := hu.size; omega
theorem DevO.up {w0 w w' : World} {M g : Nat} {s : DSt} (h : DevO w0 M w g s) (hu : Up w w') : DevO w0 M w' g s := by
  obtain ⟨S, h1, h2, h3⟩ := h.out
  exact ⟨S, h1.up hu, h2, h3.trans hu⟩
theorem DevO.w {w0 w : World} {M g : Nat} {s : DSt} (h : DevO w0 M w g s) : Up w0 w := by
  obtain ⟨S, h1, h2, h3⟩ := h.out
  exact h3
theorem DevO.of {w0 w w' : World} {g : Nat} {S : Nat → Prop} {s' : DSt} (hd : DevI w' g S s') (hS : ∀ b, S b → w0.heap.size ≤ b) (hu : Up w0 w) (hx : UpX S w w') : DevO w0 w'.heap.size w' g s' :=
  ⟨S, hd, fun b hb => ⟨hS b hb, hd.lt b hb⟩, hu.thenx hx fun i hi e => by have := hS i e; omega⟩
/-- A page is written, its bytes where the device isn't. -/
theorem DevO.write {w0 w : World} {M g : Nat} {s : DSt} (h : DevO w0 M w g s) (no : Int) (A : Option Addr) (c n : Nat) (l : List Int) (hr : Rd w .u8 A c l) (hn : n = l.length) (hwr : s.wr < 1000000000000) (hA : ∀ ad, A = some ad → 0 < l.length → M ≤ ad.block ∨ ad.block < w0.heap.size) :
    Calls Try.prog 19 #[.pointer (some ⟨g, 0, none⟩), .int .i64 no, .slice A n c] w fun e w' => e = .returned (.int .i64 (devWriteR s no l)) ∧ DevO w0 w'.heap.size w' g (devWriteS s no l) := by
  subst hn
  obtain ⟨S, h1, h2, h3⟩ := h.out
  by_cases hb : devErr s no ≠ 0 ∨ l.length ≠ 256 ∨ useOk s = false
  · exact (devWrite_bad g S s no A c l w h1 hr hb).mono fun e w' ⟨h5, h6⟩ => ⟨h5, h6.o (fun b hb => (h2 b hb).1) h3⟩
  · have he : devErr s no = 0 := by
      rcases Int.decEq (devErr s no) 0 with h | h
      · exact absurd (.inl h) hb
      · exact h
    have hl : l.length = 256 := by
      rcases Nat.decEq l.length 256 with h | h
      · exact absurd (.inr (.inl h)) hb
      · exact h
    have hu : useOk s = true := by
      cases h : useOk s with
      | true => rfl
      | false => exact absurd (.inr (.inr h)) hb
    have hres : devWriteR s no l = 0 := by unfold devWriteR; rw [he, hl, hu]; simp
    rw [hres, hl]
    exact (devWrite_ok g S s no A c l w h1 hr he hl hu hwr (fun ad e hs => by
      have := h2 _ hs
      rcases hA ad e (by omega) with h | h <;> omega)).mono fun e w' ⟨h5, h6⟩ => ⟨h5, h6.o (fun b hb => (h2 b hb).1) h3⟩
/-- What Sync answers. -/
theorem DevO.sync {w0 w : World} {M g : Nat} {s : DSt} (h : DevO w0 M w g s) (hsy : s.sy < 1000000000000) :
    Calls Try.prog 21 #[.pointer (some ⟨g, 0, none⟩)] w fun e w' => e = .returned (.int .i64 (syncR s)) ∧ DevO w0 w'.heap.size w' g (syncS s) := by
  obtain ⟨S, h1, h2, h3⟩ := h.out
  by_cases hb : s.off = true ∨ useOk s = false
  · have hr : syncR s = 9 := by unfold syncR; rw [if_pos hb]
    rw [hr]
    exact (devSync_bad g S s w h1 hb).mono fun e w' ⟨h5, h6⟩ => ⟨h5, h6.o (fun b hb => (h2 b hb).1) h3⟩
  · have hr : syncR s = 0 := by unfold syncR; rw [if_neg hb]
    rw [hr]
    have ho : s.off = false := by
      cases h : s.off with
      | false => rfl
      | true => exact absurd (.inl h) hb
    have hu : useOk s = true := by
      cases h : useOk s with
      | true => rfl
      | false => exact absurd (.inr h) hb
    exact (devSync_ok g S s w h1 ho hu hsy).mono fun e w' ⟨h5, h6⟩ => ⟨h5, h6.o (fun b hb => (h2 b hb).1) h3⟩
theorem DevO.crash {w0 w : World} {M g : Nat} {s : DSt} (h : DevO w0 M w g s) (B : Option Addr) (c n : Nat) (ks : List KeepS) (hk : KeepsR w B ks) (hn : n = ks.length) (hl : ks.length ≤ 1000) (hwr : s.wr < 1000000000000) (hB : ∀ ad, B = some ad → 0 < ks.length → M ≤ ad.block ∨ ad.block < w0.heap.size) :
    Calls Try.prog 23 #[.pointer (some ⟨g, 0, none⟩), .slice B n c] w fun e w' => e = .returned (.int .i64 (crashN s ks)) ∧ DevO w0 w'.heap.size w' g (crashS s ks) := by
  subst hn
  obtain ⟨S, h1, h2, h3⟩ := h.out
  exact (devCrash_calls g S s B c ks w h1 hk (fun ad e h0 hs => by
    have := h2 _ hs
    rcases hB ad e h0 with h | h <;> omega) hl hwr).mono fun e w' ⟨h5, h6, h7⟩ => ⟨h5, DevO.of h6 (fun b hb => (h2 b hb).1) h3 h7⟩
theorem DevO.power {w0 w : World} {M g : Nat} {s : DSt} (h : DevO w0 M w g s) :
    Calls Try.prog 24 #[.pointer (some ⟨g, 0, none⟩)] w fun e w' => e = .returned (.tuple #[]) ∧ DevO w0 w'.heap.size w' g (powerS s) := by
  obtain ⟨S, h1, h2, h3⟩ := h.out
  exact (devPower_calls g S s w h1).mono fun e w' ⟨h5, h6, h7⟩ => ⟨h5, DevO.of h6 (fun b hb => (h2 b hb).1) h3 h7⟩
theorem DevO.arm {w0 w : World} {M g : Nat} {s : DSt} (h : DevO w0 M w g s) (x : Int) (hx : InK .i64 x) :
    Calls Try.prog 31 #[.pointer (some ⟨g, 0, none⟩), .int .i64 x] w fun e w' => e = .returned (.tuple #[]) ∧ DevO w0 w'.heap.size w' g { s with armed := decide (0 ≤ x), left := x } := by
  obtain ⟨S, h1, h2, h3⟩ := h.out
  exact (devArm_calls g S s x w h1 hx).mono fun e w' ⟨h5, h6, h7⟩ => ⟨h5, DevO.of h6 (fun b hb => (h2 b hb).1) h3 (h7.mono fun b _ e => by subst e; exact h1.sg)⟩
/-- A page was read: the bytes lie in a slice of their own, behind what was there. -/
structure SeenO (w0 : World) (w : World) (g : Nat) (s : DSt) (no : Int) (en : Ending) (w' : World) : Prop where mk ::
  out : ∃ v, en = .returned (.tuple #[v, .int .i64 (devErr s no)]) ∧ Own w' w.heap.size 5 .u8 v (if devErr s no = 0 then devSees s no.toNat else []) ∧ DevO w0 w'.heap.size w' g (if devErr s no = 0 then { s with rd := s.rd + 1 } else s)
theorem DevO.read {w0 w : World} {M g : Nat} {s : DSt} (h : DevO w0 M w g s) (no : Int) (hrd : s.rd < 1000000000000) : Calls Try.prog 17 #[.pointer (some ⟨g, 0, none⟩), .int .i64 no] w (SeenO w0 w g s no) := by
  obtain ⟨S, h1, h2, h3⟩ := h.out
  by_cases he : devErr s no = 0
  · obtain ⟨h4, h5, h6⟩ := devErr_zero he
    obtain ⟨i, rfl⟩ := Int.eq_ofNat_of_zero_le h5
    refine (devRead_ok g S s i w h1 h4 (by omega) hrd).mono fun e w' h => ?_
    obtain ⟨v, h7, h8, h9, h10⟩ := h.out
    refine ⟨v, by rw [he]; exact h7, by rw [if_pos he]; exact h8, ?_⟩
    rw [if_pos he]
    exact DevO.of h9 (fun b hb => (h2 b hb).1) h3 (h10.mono fun b _ e => by subst e; exact h1.sg)
  · refine (devRead_bad g S s no w h1 he).mono fun e w' ⟨h4, h5⟩ => ?_
    subst h5
    refine ⟨_, h4, by rw [if_neg he]; exact Own.nil _ _ _ _, ?_⟩
    rw [if_neg he]
    exact ⟨S, h1, fun b hb => ⟨(h2 b hb).1, h1.lt b hb⟩, h3⟩
theorem DevMade.o {w0 w w' : World} {pg : List (List Int)} {en : Ending} (h : DevMade w pg en w') (hu : Up w0 w) : ∃ g, en = .returned (.tuple #[.pointer (some ⟨g, 0, none⟩), .int .i64 0]) ∧ DevO w0 w'.heap.size w' g (newS pg) := by
  obtain ⟨g, S, h1, h2, h3, h4⟩ := h.out
  exact ⟨g, h1, S, h2, fun b hb => ⟨by have := h4 b hb; have := hu.size; omega, h2.lt b hb⟩, hu.trans h3⟩
/-- Where an own slice lies. -/
theorem Own.blk {w : World} {base e : Nat} {k : IntKind} {B : Option Addr} {n c : Nat} {xs : List Int} (h : Own w base e k (.slice B n c) xs) : ∀ ad, B = some ad → base ≤ ad.block ∧ ad.block < w.heap.size := by
  intro ad e'
  subst e'
  rcases h.row.2 with ⟨h0, _⟩ | ⟨_, _, _, h0, _⟩
  · cases h0
  · injection h0 with h0 _ _
    injection h0 with h0
    subst h0
    exact h.lt _ rfl
theorem Own.plain {w : World} {base e : Nat} {k : IntKind} {ad : Addr} {n c : Nat} {xs : List Int} (h : Own w base e k (.slice (some ad) n c) xs) : ∃ b, ad = ⟨b, 0, none⟩ := by
  rcases h.row.2 with ⟨h0, _⟩ | ⟨b, _, _, h0, _⟩
  · cases h0
  · injection h0 with h0 _ _
    injection h0 with h0
    exact ⟨b, h0⟩
def k0S : DSt := newS (zeroPg 2)
def k1S : DSt := devWriteS k0S 1 (full [1, 1, 1])
def k2S : DSt := devWriteS k1S 1 (full [2, 2, 2])
def k3S : DSt := crashS k2S [⟨1, 1, 2⟩]
def k4S : DSt := powerS k3S
theorem k1R : devWriteR k0S 1 (full [1, 1, 1]) = 0 := by kernel_rfl
theorem k2R : devWriteR k1S 1 (full [2, 2, 2]) = 0 := by kernel_rfl
theorem k3N : crashN k2S [⟨1, 1, 2⟩] = 1 := by kernel_rfl
theorem k4L : devSees k4S 1 = [2, 2, 1] ++ List.replicate 253 0 := by kernel_rfl
theorem k4O : k4S.off = false := by kernel_rfl
theorem k4P : k4S.pg.length = 2 := by kernel_rfl
theorem k4D : k4S.rd = 0 := by kernel_rfl
theorem k1W : k1S.wr = 1 := by kernel_rfl
theorem k2W : k2S.wr = 2 := by kernel_rfl
theorem ks1 : KeepIn ⟨1, 1, 2⟩ := ⟨InK.of_i64 (by decide) (by decide), InK.of_i64 (by decide) (by decide), InK.of_i64 (by decide) (by decide)⟩
set_option maxHeartbeats 4000000 in
theorem known03_calls (w : World) : Calls Try.prog 13 #[] w fun e w' => e = .returned (.bool true) ∧ Up w w' := by
  have HN := Lib.hid (devNew_ok 2 w (by decide) (by decide))
  go_enter Try.func13, Try.ntmps13
  go_wp2_with fail
  refine (HN.out).mono ?_
  intro en w1 hm
  obtain ⟨g, rfl, hd⟩ := hm.o (Up.refl w)
  have HD := Lib.hid (show DevO w w1.heap.size w1 g k0S from hd)
  clear hd hm HN
  go_wp2_with fail
  have hua : Up w1 (w1.alloc (.cells #[.int .u8 1, .int .u8 1, .int .u8 1] 5)) := (Up.refl _).alloc _
  have hr1 : Rd (w1.alloc (.cells #[.int .u8 1, .int .u8 1, .int .u8 1] 5)) .u8 (some ⟨w1.heap.size, 0, none⟩) 3 [1, 1, 1] := Rd.block [1, 1, 1] (Blk.new w1 5 #[.int .u8 1, .int .u8 1, .int .u8 1]).out rfl rfl (by decide) (by intro x hx; simp at hx; subst hx; exact InK.of_u8 (by decide) (by decide))
  refine (law03Full_calls _ 3 [1, 1, 1] _ hr1).mono ?_
  rintro en w2 ⟨v, rfl, hv, hu2⟩
  obtain ⟨B, c, rfl, hr2⟩ := hv.rd
  have HD2 := Lib.hid ((HD.out.up hua).up hu2)
  have hB : ∀ ad, B = some ad → 0 < (full [1, 1, 1]).length → w1.heap.size ≤ ad.block ∨ ad.block < w.heap.size := fun ad e h0 => .inl (by have := (hv.blk ad e).1; simp at this; omega)
  have HW := Lib.hid (HD2.out.write 1 B c 256 (full [1, 1, 1]) hr2 (full_len _).symm (by decide) hB)
  rw [k1R, full_len] at *
  clear hr1 hv hr2 hB hua hu2 HD HD2
  go_wp2_with fail
  refine (HW.out).mono ?_
  rintro en w3 ⟨rfl, hd3⟩
  have HD := Lib.hid (show DevO w w3.heap.size w3 g k1S from hd3)
  clear hd3 HW
  go_wp2_with fail
  have hua : Up w3 (w3.alloc (.cells #[.int .u8 2, .int .u8 2, .int .u8 2] 5)) := (Up.refl _).alloc _
  have hr1 : Rd (w3.alloc (.cells #[.int .u8 2, .int .u8 2, .int .u8 2] 5)) .u8 (some ⟨w3.heap.size, 0, none⟩) 3 [2, 2, 2] := Rd.block [2, 2, 2] (Blk.new w3 5 #[.int .u8 2, .int .u8 2, .int .u8 2]).out rfl rfl (by decide) (by intro x hx; simp at hx; subst hx; exact InK.of_u8 (by decide) (by decide))
  refine (law03Full_calls _ 3 [2, 2, 2] _ hr1).mono ?_
  rintro en w4 ⟨v, rfl, hv, hu2⟩
  obtain ⟨B, c, rfl, hr2⟩ := hv.rd
  have HD2 := Lib.hid ((HD.out.up hua).up hu2)
  have hB : ∀ ad, B = some ad → 0 < (full [2, 2, 2]).length → w3.heap.size ≤ ad.block ∨ ad.block < w.heap.size := fun ad e h0 => .inl (by have := (hv.blk ad e).1; simp at this; omega)
  have HW := Lib.hid (HD2.out.write 1 B c 256 (full [2, 2, 2]) hr2 (full_len _).symm (by rw [k1W]; decide) hB)
  rw [k2R, full_len] at *
  clear hr1 hv hr2 hB hua hu2 HD HD2
  go_wp2_with fail
  refine (HW.out).mono ?_
  rintro en w5 ⟨rfl, hd5⟩
  have HD := Lib.hid (show DevO w w5.heap.size w5 g k2S from hd5)
  clear hd5 HW
  go_wp2_with fail
  have hua : Up w5 (w5.alloc (.cells #[.int .i64 1, .int .i64 1, .int .i64 2] 104)) := (Up.refl _).alloc _
  have hb6 := Blk.new w5 104 #[.int .i64 1, .int .i64 1, .int .i64 2]
  have hks : KeepsR (w5.alloc (.cells #[.int .i64 1, .int .i64 1, .int .i64 2] 104)) (some ⟨w5.heap.size, 0, none⟩) [⟨1, 1, 2⟩] := ⟨fun i x hx => by
    cases i with
    | zero =>
      simp only [List.getElem?_cons_zero, Option.some.injEq] at hx
      subst hx
      exact ⟨w5.heap.size, 0, rfl, hb6.cell 0, hb6.cell 1, hb6.cell 2⟩
    | succ i => simp at hx, fun x hx => by rw [List.mem_singleton.1 hx]; exact ks1⟩
  have HC := Lib.hid ((HD.out.up hua).crash (some ⟨w5.heap.size, 0, none⟩) 1 1 [⟨1, 1, 2⟩] hks rfl (by decide) (by rw [k2W]; decide) (fun ad e _ => .inl (by injection e with e; subst e; exact Nat.le_refl _)))
  rw [k3N] at HC
  clear hks hb6 hua HD
  refine (HC.out).mono ?_
  rintro en w6 ⟨rfl, hd6⟩
  have HP := Lib.hid ((show DevO w w6.heap.size w6 g k3S from hd6).power)
  clear hd6 HC
  go_wp2_with fail
  refine (HP.out).mono ?_
  rintro en w7 ⟨rfl, hd7⟩
  have HR := Lib.hid ((show DevO w w7.heap.size w7 g k4S from hd7).read 1 (by rw [k4D]; decide))
  clear hd7 HP
  go_wp2_with fail
  refine (HR.out).mono ?_
  intro en w8 hs
  obtain ⟨v, rfl, hv, hd⟩ := hs.out
  rw [show devErr k4S 1 = 0 by kernel_rfl] at *
  rw [if_pos rfl, show (1 : Int).toNat = 1 from rfl] at hv
  have f0 : (devSees k4S 1).getD 0 0 = 2 := by rw [k4L]; rfl
  have f1 : (devSees k4S 1).getD 1 0 = 2 := by rw [k4L]; rfl
  have f2 : (devSees k4S 1).getD 2 0 = 1 := by rw [k4L]; rfl
  have fl : (devSees k4S 1).length = 256 := by rw [k4L]; rfl
  obtain ⟨B, c, rfl, hr⟩ := hv.rd
  rw [fl]
  obtain ⟨a0, x0, rfl, hc0, hx0, _⟩ := hr.get 0 (by rw [fl]; decide)
  obtain ⟨_, x1, e1, hc1, hx1, _⟩ := hr.get 1 (by rw [fl]; decide)
  obtain ⟨_, x2, e2, hc2, hx2, _⟩ := hr.get 2 (by rw [fl]; decide)
  obtain rfl := Option.some.inj e1
  obtain rfl := Option.some.inj e2
  obtain rfl : x0 = 2 := hx0.out.symm.trans f0
  obtain rfl : x1 = 2 := hx1.out.symm.trans f1
  obtain rfl : x2 = 1 := hx2.out.symm.trans f2
  obtain ⟨gb, rfl⟩ := hv.plain
  rw [add_lit0] at hc0 hc1 hc2
  clear f0 f1 f2 fl e1 e2
  have HU := Lib.hid hd.w
  clear hd hv hr hs HR hx0 hx1 hx2
  go_wp2_with fail
  go_ret
  exact ⟨rfl, HU.out⟩
set_option maxHeartbeats 4000000 in
theorem lawDeviceNil_calls (no : Int) (A : Option Addr) (c : Nat) (b : List Int) (w : World) (_ : InK .i64 no) (_ : Rd w .u8 A c b) :
    Calls Try.prog 6 #[.int .i64 no, .slice A b.length c] w fun e w' => e = .returned (.bool true) ∧ Up w w' := by
  have hnot : ∀ (x : Bool) (w : World), (Op.unary .not (.bool x)).run Try.prog w = .ok (.bool (!x)) w := fun _ _ => rfl
  go_enter Try.func6, Try.ntmps6
  go_wp2_with fail
  refine (devPower_nil w).mono ?_
  rintro en w1 ⟨rfl, rfl⟩
  go_wp2_with fail
  refine (devArm_nil no w1).mono ?_
  rintro en w1 ⟨rfl, rfl⟩
  go_wp2_with fail
  refine (devRead_nil no w1).mono ?_
  rintro en w1 ⟨rfl, rfl⟩
  go_wp2_with fail
  refine (devCounts_nil w1).mono ?_
  rintro en w1 ⟨rfl, rfl⟩
  go_wp2_with fail
  refine (known03_calls w1).mono ?_
  rintro en w2 ⟨rfl, hu2⟩
  go_wp2_with fail
  refine (devWrite_nil no A b.length c w2).mono ?_
  rintro en w3 ⟨rfl, rfl⟩
  go_wp2_with fail
  refine (devSync_nil w3).mono ?_
  rintro en w3 ⟨rfl, rfl⟩
  go_wp2_with fail
  refine (devCrash_nil none 0 0 w3).mono ?_
  rintro en w3 ⟨rfl, rfl⟩
  go_wp2_with fail
  refine (devOn_nil w3).mono ?_
  rintro en w3 ⟨rfl, rfl⟩
  go_wp2_with fail
  refine (devWaiting_nil w3).mono ?_
  rintro en w3 ⟨rfl, rfl⟩
  go_wp2_with fail
  refine (devPages_nil w3).mono ?_
  rintro en w3 ⟨rfl, rfl⟩
  go_wp2_with fail
  refine (devImage_nil w3).mono ?_
  rintro en w3 ⟨rfl, rfl⟩
  go_wp2_with fail
  go_ret
  exact ⟨rfl, hu2⟩
end Go.Proofs.Ytehdigkjbobndaa

/- Layer 3: the law DeviceLoads. -/
namespace Go.Proofs.Ytehdigkjbobndaa
open Go.RowKit
set_option maxRecDepth 100000

theorem DevO.pages {w0 w : World} {M g : Nat} {s : DSt} (h : DevO w0 M w g s) : Calls Try.prog 14 #[.pointer (some ⟨g, 0, none⟩)] w fun e w' => e = .returned (.int .i64 s.pg.length) ∧ w' = w := by
  obtain ⟨S, h1, h2, h3⟩ := h.out
  exact devPages_calls g S s w h1
theorem DevO.on {w0 w : World} {M g : Nat} {s : DSt} (h : DevO w0 M w g s) : Calls Try.prog 25 #[.pointer (some ⟨g, 0, none⟩)] w fun e w' => e = .returned (.bool (!s.off)) ∧ w' = w := by
  obtain ⟨S, h1, h2, h3⟩ := h.out
  exact devOn_calls g S s w h1
theorem DevO.image {w0 w : World} {M g : Nat} {s : DSt} (h : DevO w0 M w g s) : Calls Try.prog 16 #[.pointer (some ⟨g, 0, none⟩)] w (RetOwn w 5 .u8 s.pg.flatten) := by
  obtain ⟨S, h1, h2, h3⟩ := h.out
  exact devImage_calls g S s w h1
theorem DevO.counts {w0 w : World} {M g : Nat} {s : DSt} (h : DevO w0 M w g s) : Calls Try.prog 33 #[.pointer (some ⟨g, 0, none⟩)] w fun e w' => e = .returned (.tuple #[.int .i64 s.rd, .int .i64 s.wr, .int .i64 s.sy]) ∧ Qt w w' := by
  obtain ⟨S, h1, h2, h3⟩ := h.out
  exact devCounts_calls g S s w h1
theorem DevO.waiting {w0 w : World} {M g : Nat} {s : DSt} (h : DevO w0 M w g s) (hwr : s.wr < 1000000000000) : Calls Try.prog 34 #[.pointer (some ⟨g, 0, none⟩)] w fun e w' => e = .returned (.int .i64 (sumTo (fun i => (s.wt i).length) s.pg.length : Nat)) ∧ Up w w' := by
  obtain ⟨S, h1, h2, h3⟩ := h.out
  exact devWaiting_calls g S s w h1 hwr
theorem DevO.ok {w0 w : World} {M g : Nat} {s : DSt} (h : DevO w0 M w g s) : DOk s := by
  obtain ⟨S, h1, h2, h3⟩ := h.out
  exact h1.ok
def chunks : Nat → List Int → List (List Int)
  | 0, _ => []
  | n + 1, l => l.take 256 :: chunks n (l.drop 256)
theorem chunks_spec : ∀ (n : Nat) (l : List Int), l.length = 256 * n → (chunks n l).flatten = l ∧ (∀ p ∈ chunks n l, p.length = 256) ∧ (chunks n l).length = n
  | 0, l, h => by
    have : l = [] := List.eq_nil_of_length_eq_zero (by omega)
    subst this
    exact ⟨rfl, fun p hp => (by cases hp), rfl⟩
  | n + 1, l, h => by
    obtain ⟨h1, h2, h3⟩ := chunks_spec n (l.drop 256) (by rw [List.length_drop]; omega)
    refine ⟨?_, fun p hp => ?_, ?_⟩
    · show (l.take 256 ++ (chunks n (l.drop 256)).flatten) = l
      rw [h1, List.take_append_drop]
    · rcases List.mem_cons.1 hp with rfl | hp
      · rw [List.length_take]; omega
      · exact h2 p hp
    · show (chunks n (l.drop 256)).length + 1 = n + 1
      rw [h3]
set_option maxHeartbeats 1000000 in
theorem lawDeviceLoads_calls (A : Option Addr) (c : Nat) (l : List Int) (no : Int) (w : World) (h : Rd w .u8 A c l) (hno : InK .i64 no) :
    Calls Try.prog 3 #[.slice A l.length c, .int .i64 no] w fun e w' => e = .returned (.bool true) ∧ Up w w' := by
  have hnot : ∀ (x : Bool) (w : World), (Op.unary .not (.bool x)).run Try.prog w = .ok (.bool (!x)) w := fun _ _ => rfl
  have hx : Rd w .u8 A c (l.take 3000) := h.take 3000
  obtain ⟨n, hn⟩ : ∃ n, (l.take 3000).length = n := ⟨_, rfl⟩
  have hn0 : n = min l.length 3000 := by rw [← hn, List.length_take]; omega
  have hL := h.le
  have HX := Lib.hid hx
  have HN := Lib.hid hn
  generalize l.take 3000 = x at *
  clear h hx hn
  go_enter Try.func3, Try.ntmps3
  go_upto_region 1 with fail
  go_cut [0] (fun v wx => v = .slice A n c ∧ w = wx)
  case first =>
    by_cases h9 : (3000 : Int) < (l.length : Int)
    · have HE := Lib.hid (show 3000 = n by omega)
      clear hn0
      go_wp2_with fail
      go_meet
      exact ⟨by rw [HE.out], rfl⟩
    · have HE := Lib.hid (show l.length = n by omega)
      clear hn0
      go_wp2_with fail
      go_meet
      exact ⟨by rw [HE.out], rfl⟩
  case rest =>
    obtain ⟨rfl, rfl⟩ := hcut
    have h30 : n ≤ 3000 := by omega
    have hnc : n ≤ c := by omega
    clear hn0 hL
    by_cases hb : n = 0 ∨ n % 256 ≠ 0
    · have HB := Lib.hid (devLoad_bad A c n w (by omega) (by omega))
      go_wp2_with fail
      refine (HB.out).mono ?_
      rintro en w1 ⟨rfl, rfl⟩
      clear HB
      by_cases h0 : n = 0
      · subst h0
        clear hb
        go_wp2_with fail
        refine (known03_calls w1).mono ?_
        rintro en w2 ⟨rfl, hu⟩
        go_wp2_with fail
        go_ret
        exact ⟨rfl, hu⟩
      · have h1 : n % 256 ≠ 0 := by omega
        have h2 : ((n : Int) == 0) = false := by simp; omega
        have h3 : ((n : Int).tmod 256 != 0) = true := by
          rw [Int.tmod_eq_emod_of_nonneg (by omega)]
          simp
          omega
        clear hb
        go_wp2_with fail
        refine (known03_calls w1).mono ?_
        rintro en w2 ⟨rfl, hu⟩
        go_wp2_with fail
        go_ret
        exact ⟨rfl, hu⟩
    · obtain ⟨P, rfl⟩ : ∃ P, n = 256 * P := ⟨n / 256, by omega⟩
      have hP1 : 1 ≤ P := by omega
      have hP2 : P ≤ 11 := by omega
      obtain ⟨hf, hpl, hpn⟩ := chunks_spec P x HN.out
      have HLD := Lib.hid (devLoad_ok A c (chunks P x) w (by rw [hf]; exact HX.out) hpl (by rw [hpn]; exact hP1) (by rw [hpn]; omega))
      rw [hpn] at HLD
      generalize chunks P x = pg at *
      have HF := Lib.hid hf
      have HPL := Lib.hid hpl
      have HPN := Lib.hid hpn
      clear hb hf hpl hpn
      have h2 : (((256 * P : Nat) : Int) == 0) = false := by simp; omega
      have h3 : (((256 * P : Nat) : Int).tmod 256 != 0) = false := by
        rw [Int.tmod_eq_emod_of_nonneg (by omega)]
        simp
      have h4 : (((256 * P : Nat) : Int).tdiv 256) = (P : Int) := by
        rw [Int.tdiv_eq_ediv_of_nonneg (by omega)]; omega
      go_wp2_with fail
      refine (HLD.out).mono ?_
      intro en w1 hm
      obtain ⟨g, rfl, hd⟩ := hm.o (Up.refl w)
      have HD := Lib.hid hd
      clear hm hd HLD
      have HPG := Lib.hid HD.out.pages
      rw [show (newS pg).pg.length = P from HPN.out] at HPG
      go_wp2_with fail
      refine (HPG.out).mono ?_
      rintro en w2 ⟨rfl, rfl⟩
      have HIM := Lib.hid HD.out.image
      clear HPG
      go_wp2_with fail
      refine (HIM.out).mono ?_
      rintro en w3 ⟨v, rfl, hv, hu3⟩
      rw [show (newS pg).pg.flatten = x from HF.out] at hv
      obtain ⟨B, c3, rfl, hr3⟩ := hv.rd
      have HD3 := Lib.hid (HD.out.up hu3)
      have HX3 := Lib.hid (HX.out.up HD3.out.w)
      have HSM := Lib.hid (refSame_n hr3 HX3.out (show 256 * P = x.length from HN.out.symm) (show 256 * P = x.length from HN.out.symm))
      rw [decide_eq_true rfl] at HSM
      rw [HN.out]
      clear HIM HD hv hu3 hr3
      go_wp2_with fail
      refine (HSM.out).mono ?_
      rintro en w4 ⟨rfl, hq4⟩
      have HD4 := Lib.hid (HD3.out.up hq4.up)
      clear HD3 HSM hq4
      have HRD := Lib.hid (HD4.out.read no (show 0 < 1000000000000 by decide))
      go_wp2_with fail
      refine (HRD.out).mono ?_
      intro en w5 hs
      obtain ⟨v, rfl, hv, hd⟩ := hs.out
      have HD5 := Lib.hid hd
      clear hs hd HRD HX3
      by_cases hin : 0 ≤ no ∧ no < (P : Int)
      · obtain ⟨i, rfl⟩ := Int.eq_ofNat_of_zero_le hin.1
        have hiP : i < P := by omega
        have he : devErr (newS pg) (i : Int) = 0 := devErr_ok rfl (by omega) (by show (i : Int) < (pg.length : Int); rw [HPN.out]; omega)
        rw [he] at hv ⊢
        rw [if_pos rfl, show ((i : Int)).toNat = i from Int.toNat_natCast i, show devSees (newS pg) i = pg.getD i [] from by unfold devSees newS; simp] at hv
        have hfp := flat_page (m := 256) pg i HPL.out (by rw [HPN.out]; exact hiP)
        rw [HF.out] at hfp
        obtain ⟨B5, c5, rfl, hr5⟩ := hv.rd
        have hlp : (pg.getD i []).length = 256 := by
          rw [List.getD_eq_getElem?_getD, List.getElem?_eq_getElem (by rw [HPN.out]; exact hiP)]
          exact HPL.out _ (List.getElem_mem _)
        rw [hlp]
        have HU5 := Lib.hid HD5.out.w
        clear hin he hv HD5 HD4 HPL HPN
        have HFP := Lib.hid hfp
        have HLP := Lib.hid hlp
        have hnP : ¬ ((P : Int) ≤ (i : Int)) := by omega
        have hnP2 : decide ((P : Int) ≤ (i : Int)) = false := decide_eq_false hnP
        have hlt : 256 * i + 256 ≤ c := by omega
        have hlti : (i : Int) < (P : Int) := by omega
        clear hfp hlp hnP
        cases A with
        | none => have := HX.out.non rfl; have := HN.out; omega
        | some ad =>
          go_wp2_with fail
          refine (known03_calls w5).mono ?_
          rintro en w6 ⟨rfl, hu6⟩
          have HX6 := Lib.hid ((HX.out.up HU5.out).up hu6)
          have hr6 := hr5.up hu6
          have HU6 := Lib.hid (HU5.out.trans hu6)
          clear hu6 hr5
          have hr7 : Rd w6 .u8 (some (ad.add (256 * i))) (c - 256 * i) (pg.getD i []) := by
            have h8 := HX6.out.cut (256 * i) (256 * i + 256) c (by omega) (by have := HN.out; omega) (by omega) (Nat.le_refl _)
            rw [if_neg (by omega), HFP.out] at h8
            exact h8
          have HSM := Lib.hid (refSame_n hr6 hr7 HLP.out.symm HLP.out.symm)
          rw [decide_eq_true rfl] at HSM
          clear hr6 hr7
          go_wp2_with fail
          refine (HSM.out).mono ?_
          rintro en w7 ⟨rfl, hq⟩
          go_wp2_with fail
          go_ret
          exact ⟨rfl, HU6.out.trans hq.up⟩
      · have he : devErr (newS pg) no = 10 := by
          unfold devErr
          rw [if_neg (by simp [newS]), if_pos (by show no < 0 ∨ (pg.length : Int) ≤ no; rw [HPN.out]; omega)]
        rw [he] at hv ⊢
        rw [if_neg (by decide)] at hv
        have HU5 := Lib.hid HD5.out.w
        obtain ⟨B5, c5, rfl, hr5⟩ := hv.rd
        clear he hv HD5 HD4 hr5
        by_cases h0 : no < 0
        · clear hin
          go_wp2_with fail
          refine (known03_calls w5).mono ?_
          rintro en w6 ⟨rfl, hu6⟩
          go_wp2_with fail
          go_ret
          exact ⟨rfl, HU5.out.trans hu6⟩
        · have h1 : (P : Int) ≤ no := by omega
          have h00 : decide (no < 0) = false := decide_eq_false h0
          clear hin
          go_wp2_with fail
          refine (known03_calls w5).mono ?_
          rintro en w6 ⟨rfl, hu6⟩
          go_wp2_with fail
          go_ret
          exact ⟨rfl, HU5.out.trans hu6⟩
end Go.Proofs.Ytehdigkjbobndaa

/- A slice of one's own, of elements of several cells. Over any program. -/
namespace Go.Proofs.Ytehdigkjbobndaa
open Go.RowKit

structure OwnS (w : World) (base e size : Nat) (v : Value) (n : Nat) (xs : List Value) : Prop where mk :: (row : w.ownsRow base e size v n xs)
theorem OwnS.nil (w : World) (base e size : Nat) : OwnS w base e size (.slice none 0 0) 0 [] := ⟨World.ownsRow_nil _ _ _ _⟩
theorem OwnS.upx {F : Nat → Prop} {w w' : World} {base e size n : Nat} {v : Value} {vs : List Value} (h : OwnS w base e size v n vs) (hu : UpX F w w') (hF : ∀ b, v.ownBlock = some b → ¬ F b) : OwnS w' base e size v n vs := by
  refine ⟨⟨h.row.1, ?_⟩⟩
  rcases h.row.2 with hn | ⟨g, cap, cur, rfl, hb, hg, r⟩
  · exact .inl hn
  · exact .inr ⟨g, cap, cur, rfl, hb, hu.heap hg (hF g rfl), r⟩
theorem OwnS.up {w w' : World} {base e size n : Nat} {v : Value} {vs : List Value} (h : OwnS w base e size v n vs) (hu : Up w w') : OwnS w' base e size v n vs := h.upx (hu.x fun _ => False) fun _ _ f => f
theorem OwnS.lt {w : World} {base e size n : Nat} {v : Value} {vs : List Value} (h : OwnS w base e size v n vs) : ∀ b, v.ownBlock = some b → base ≤ b ∧ b < w.heap.size := h.row.lt
/-- Where it lies, its cells, its capacity. -/
theorem OwnS.slice {w : World} {base e size n : Nat} {v : Value} {vs : List Value} (h : OwnS w base e size v n vs) :
    ∃ A c, v = .slice A n c ∧ n ≤ c ∧ n ≤ 9223372036854775807 ∧ (A = none → n = 0) ∧ ∀ ad, A = some ad → ∃ b, ad = ⟨b, 0, none⟩ ∧ base ≤ b ∧ b < w.heap.size ∧ ∀ j u, vs[j]? = some u → w.cell? ⟨b, j, none⟩ = some u := by
  rcases h.row.2 with ⟨rfl, h0⟩ | ⟨g, cap, cur, rfl, hb, hh, h1, h2, h3, h4⟩
  · exact ⟨none, 0, by rw [h0], by omega, by omega, fun _ => h0, fun _ e => by cases e⟩
  · refine ⟨_, cap, rfl, h1, by simp [maxLen] at h2; omega, (fun e => by cases e), ?_⟩
    intro ad e
    obtain rfl := Option.some.inj e
    refine ⟨g, rfl, hb, (Array.getElem?_eq_some_iff.1 hh).1, fun j u hu => ?_⟩
    rw [cell_of_row w g j _ _ (0, 0) hh]
    rw [← h4, List.getElem?_take] at hu
    split at hu
    · simpa using hu
    · cases hu

/-- append of elements that lie in cells. -/
theorem wpl_appendS {P : Program} {w : World} {ops : Array Oper} {rest : List Oper} {a : Act} {Q : Exit → Act → World → Prop} {dst : Option Tmp} {ty : TypeId} {pos : String} {after : Array Edge}
    {s x : Operand} {t : TypeId} (base e : Nat) (z : Value) (size bytes : Nat) (ht : P.underlying t = some (.slice e)) (hi : (P.info? e).map (fun i => (i.zero, i.size, i.bytes)) = some (some z, size, bytes)) (hz1 : z.cells.size = size) (hs0 : 0 < size)
    (v : Value) (n : Nat) (vs : List Value) (hs : a.eval s = v) (hown : OwnS w base e size v n vs)
    (ad : Addr) (m c : Nat) (news : List Value) (hx : a.eval x = .slice (some ad) m c) (hm : news.length = m * size) (hnews : ∀ j u, news[j]? = some u → w.cell? (ad.add j) = some u) (h1c : ∀ u ∈ news, u.oneCell' = true)
    (hb : (n + m) * bytes ≤ 140737488355328) (hbytes : 1 ≤ bytes) (hbase : base ≤ w.heap.size)
    (h : ∀ v' w', OwnS w' base e size v' (n + m) (vs ++ news) → UpX (fun b => v.ownBlock = some b) w w' → (v'.ownBlock = v.ownBlock ∨ v'.ownBlock = some w.heap.size) → wpList P ops Q rest (a.put dst v') w') :
    wpList P ops Q ({ dst := dst, op := .call { callee := .builtin .append, args := #[s, x], argTypes := #[t, t] }, type := ty, pos := pos, after := after, guard := none } :: rest) a w := by
  obtain ⟨i, hi', hz, hsz, hby⟩ : ∃ i, P.info? e = some i ∧ i.zero = some z ∧ i.size = size ∧ i.bytes = bytes := by
    obtain ⟨i, h1, h2⟩ := Option.map_eq_some_iff.1 hi
    injection h2 with h2 h3
    injection h3 with h3 h4
    exact ⟨i, h1, h2, h3, h4⟩
  have hmax : n + m ≤ maxLen := by
    have : (n + m) * 1 ≤ (n + m) * bytes := Nat.mul_le_mul_left _ hbytes
    simp only [maxLen]; omega
  refine wpList_append_own_at w rfl s x t rfl base e i z size bytes ht hi' hz hsz hby hz1 hs0 v n vs hs hown.row ad m c news hx hm hnews h1c hmax hb hbase ?_
  intro v' w' h2 h3 _ h5
  exact h v' w' ⟨h2⟩ ⟨h3.os, h3.tape, h3.output, h3.size, fun b hb hne => h3.block b hb fun e => hne e.symm⟩ h5
end Go.Proofs.Ytehdigkjbobndaa

/- Layer 3: Keeps; the calls of a law as they lie in memory. -/
namespace Go.Proofs.Ytehdigkjbobndaa
open Go.RowKit
set_option maxRecDepth 100000

def keepCells (ks : List KeepS) : List Value := ks.flatMap fun k => [.int .i64 k.page, .int .i64 k.n, .int .i64 k.part]
theorem keepCells_len (ks : List KeepS) : (keepCells ks).length = ks.length * 3 := by
  unfold keepCells
  induction ks with
  | nil => rfl
  | cons k ks ih => rw [List.flatMap_cons, List.length_append, ih]; simp; omega
theorem keepCells_get : ∀ (ks : List KeepS) (i : Nat) (x : KeepS), ks[i]? = some x → (keepCells ks)[i * 3]? = some (.int .i64 x.page) ∧ (keepCells ks)[i * 3 + 1]? = some (.int .i64 x.n) ∧ (keepCells ks)[i * 3 + 2]? = some (.int .i64 x.part)
  | [], i, x, h => by simp at h
  | k :: ks, 0, x, h => by
    simp only [List.getElem?_cons_zero, Option.some.injEq] at h
    subst h
    exact ⟨rfl, rfl, rfl⟩
  | k :: ks, i + 1, x, h => by
    have ih := keepCells_get ks i x (by simpa using h)
    have e : keepCells (k :: ks) = [.int .i64 k.page, .int .i64 k.n, .int .i64 k.part] ++ keepCells ks := rfl
    rw [e, show (i + 1) * 3 = 3 + i * 3 by omega]
    have sh : ∀ j, (([.int .i64 k.page, .int .i64 k.n, .int .i64 k.part] : List Value) ++ keepCells ks)[3 + j]? = (keepCells ks)[j]? := fun j => by
      rw [List.getElem?_append_right (by simp)]
      simp
    rw [show 3 + i * 3 + 1 = 3 + (i * 3 + 1) by omega, show 3 + i * 3 + 2 = 3 + (i * 3 + 2) by omega, sh, sh, sh]
    exact ih
theorem OwnS.keeps {w : World} {base : Nat} {v : Value} {ks : List KeepS} (h : OwnS w base 104 3 v ks.length (keepCells ks)) (hk : ∀ x ∈ ks, KeepIn x) :
    ∃ B c, v = .slice B ks.length c ∧ ks.length ≤ c ∧ KeepsR w B ks ∧ ∀ ad, B = some ad → base ≤ ad.block := by
  obtain ⟨A, c, rfl, h1, _, h2, h3⟩ := h.slice
  refine ⟨A, c, rfl, h1, ⟨fun i x hx => ?_, hk⟩, fun ad e => ?_⟩
  · cases A with
    | none => have := h2 rfl; have := (List.getElem?_eq_some_iff.1 hx).1; omega
    | some ad =>
      obtain ⟨b, rfl, _, _, hc⟩ := h3 ad rfl
      obtain ⟨g0, g1, g2⟩ := keepCells_get ks i x hx
      exact ⟨b, 0, rfl, by rw [Nat.zero_add]; exact hc _ _ g0, by rw [Nat.zero_add]; exact hc _ _ g1, by rw [Nat.zero_add]; exact hc _ _ g2⟩
  · obtain ⟨b, rfl, h4, _⟩ := h3 ad e
    exact h4
/-- What Keeps answers. -/
structure KeepsPost (w : World) (A : Option Addr) (c : Nat) (ks : List KeepS) (en : Ending) (w' : World) : Prop where mk ::
  out : ∃ B d, en = .returned (.tuple #[.slice B ks.length d, .slice A ks.length c]) ∧ ks.length ≤ d ∧ KeepsR w' B ks ∧ (∀ ad, B = some ad → w.heap.size ≤ ad.block) ∧ Up w w'
set_option maxHeartbeats 2000000 in
theorem law03Keeps_calls (A : Option Addr) (c : Nat) (ks : List KeepS) (w : World) (h : KeepsR w A ks) (hc : ks.length ≤ c) (hm : ks.length ≤ 9223372036854775807) :
    Calls Try.prog 22 #[.slice A ks.length c] w (KeepsPost w A c (ks.take 30)) := by
  have hx : KeepsR w A (ks.take 30) := ⟨fun i x hx => h.at_ i x (by
    rw [List.getElem?_take] at hx
    split at hx
    · exact hx
    · cases hx), fun x hx => h.wf x (List.mem_of_mem_take hx)⟩
  obtain ⟨n, hn⟩ : ∃ n, (ks.take 30).length = n := ⟨_, rfl⟩
  have hn0 : n = min ks.length 30 := by rw [← hn, List.length_take]; omega
  have HX := Lib.hid hx
  have HN := Lib.hid hn
  generalize ks.take 30 = x at *
  clear h hx hn
  go_enter Try.func22, Try.ntmps22
  go_upto_region 1 with fail
  go_cut [0] (fun v wx => v = .slice A n c ∧ w = wx)
  case first =>
    by_cases h9 : (30 : Int) < (ks.length : Int)
    · have HE := Lib.hid (show 30 = n by omega)
      clear hn0
      go_wp2_with fail
      go_meet
      exact ⟨by rw [HE.out], rfl⟩
    · have HE := Lib.hid (show ks.length = n by omega)
      clear hn0
      go_wp2_with fail
      go_meet
      exact ⟨by rw [HE.out], rfl⟩
  case rest =>
    obtain ⟨rfl, rfl⟩ := hcut
    have h30 : n ≤ 30 := by omega
    have hnc : n ≤ c := by omega
    clear hn0 hc hm
    go_wp2_with fail
    go_loopw [4, 5] (fun v i wr => ∃ k : Nat, k ≤ n ∧ i = .int .i64 k ∧ OwnS wr w.heap.size 104 3 v k (keepCells (x.take k)) ∧ Up w wr) (fun _ i _ => n - (intOf i).toNat)
    case atStart => exact ⟨0, Nat.zero_le _, rfl, by simpa [keepCells] using OwnS.nil w w.heap.size 104 3, Up.refl _⟩
    case round =>
      obtain ⟨k, hk, rfl, ho, hu⟩ := hrel
      by_cases hlt : k < n
      · obtain ⟨z, hz⟩ : ∃ z, x[k]? = some z := ⟨_, List.getElem?_eq_getElem (by rw [HN.out]; exact hlt)⟩
        obtain ⟨bz, oz, rfl, q0, q1, q2⟩ := HX.out.at_ k z hz
        have hbz := World.block_lt_of_cell? w _ q0
        replace q0 := hu.cell q0
        replace q1 := hu.cell q1
        replace q2 := hu.cell q2
        obtain ⟨v, rfl⟩ : ∃ v, v = u4 := ⟨_, rfl⟩
        have hvb : ∀ b, v.ownBlock = some b → b ≠ bz := fun b hb e => by have := (ho.lt b hb).1; simp at hbz; omega
        have HT := Lib.hid (show keepCells (x.take (k + 1)) = keepCells (x.take k) ++ [.int .i64 z.page, .int .i64 z.n, .int .i64 z.part] by
          rw [List.take_add_one, hz]
          simp [keepCells])
        clear hz
        go_wp2_with fail
        refine wp_region_tree (fun w9 => UpX (fun b => v.ownBlock = some b) wr w9) (.quiet 0 (.quiet 1 (.quiet 2 (.quiet 3 (.quiet 4 (.quiet 5 (.quiet 6 (.quiet 7 (.quiet 8 (.quiet 9 (.quiet 10 (.quiet 11 (.quiet 12 (.quiet 13 (.quiet 14 (.quiet 15 (.quiet 16 (.alt 17 (.alt 18 (.quiet 19 (.nil)) (.stop)) (.stop))))))))))))))))))) (by kernel_rfl) (by kernel_rfl) rfl (by kernel_rfl) (by kernel_rfl) ((UpX.refl _ wr).drew) ?_
        simp only [pickT, List.getElem?_cons_succ, List.getElem?_cons_zero, Option.getD_some]
        repeat (refine tree_step rfl (fun K hK => ?_); go_big_quiet_step ((intro _; rfl)); refine wpQuiet_nil (hK _ ?_); clear hK K)
        refine tree_load ⟨bz, oz + k * 3, none⟩ (.int .i64 z.page) (by kernel_rfl) rfl (by kernel_rfl) (fun w' h => h.cell q0 (fun e => hvb _ e rfl)) ?_
        dsimp only [Act.put]
        simp only [List.setIfInBounds_toArray, List.set_cons_zero, List.set_cons_succ]
        repeat (refine tree_step rfl (fun K hK => ?_); go_big_quiet_step ((intro _; rfl)); refine wpQuiet_nil (hK _ ?_); clear hK K)
        refine tree_load ⟨bz, oz + k * 3 + 1, none⟩ (.int .i64 z.n) (by kernel_rfl) rfl (by kernel_rfl) (fun w' h => h.cell q1 (fun e => hvb _ e rfl)) ?_
        dsimp only [Act.put]
        simp only [List.setIfInBounds_toArray, List.set_cons_zero, List.set_cons_succ]
        repeat (refine tree_step rfl (fun K hK => ?_); go_big_quiet_step ((intro _; rfl)); refine wpQuiet_nil (hK _ ?_); clear hK K)
        refine tree_load ⟨bz, oz + k * 3 + 2, none⟩ (.int .i64 z.part) (by kernel_rfl) rfl (by kernel_rfl) (fun w' h => h.cell q2 (fun e => hvb _ e rfl)) ?_
        dsimp only [Act.put]
        simp only [List.setIfInBounds_toArray, List.set_cons_zero, List.set_cons_succ]
        repeat (refine tree_step rfl (fun K hK => ?_); go_big_quiet_step ((intro _; rfl)); refine wpQuiet_nil (hK _ ?_); clear hK K)
        have hud : Up wr wr.drew := (Up.refl wr).drew
        refine tree_do (fun K hK => ?_)
        go_wp2_with fail
        have hUA : Up wr (wr.alloc (.cells #[Value.int .i64 z.page, .int .i64 z.n, .int .i64 z.part] 104)).drew := ((Up.refl _).alloc _).drew
        have hB := (Blk.new wr 104 #[Value.int .i64 z.page, .int .i64 z.n, .int .i64 z.part]).drew
        refine ⟨hUA.x _, ?_⟩
        have hsa : (wr.alloc (.cells #[Value.int .i64 z.page, .int .i64 z.n, .int .i64 z.part] 104)).drew.heap.size = wr.heap.size + 1 := by simp
        have hcA : ∀ j u, ([.int .i64 z.page, .int .i64 z.n, .int .i64 z.part] : List Value)[j]? = some u → (wr.alloc (.cells #[Value.int .i64 z.page, .int .i64 z.n, .int .i64 z.part] 104)).drew.cell? ((⟨wr.heap.size, 0, none⟩ : Addr).add j) = some u := fun j u hu => by
          rw [add_lit0, hB.cell j]
          simpa using hu
        have hoA := ho.up hUA
        have hszw := hu.size
        generalize (wr.alloc (.cells #[Value.int .i64 z.page, .int .i64 z.n, .int .i64 z.part] 104)).drew = wA at *
        clear hB
        repeat (refine tree_step rfl (fun K hK => ?_); go_big_quiet_step ((intro _; rfl)); refine wpQuiet_nil (hK _ ?_); clear hK K)
        refine tree_do (fun K hK => ?_)
        refine wpl_appendS w.heap.size 104 (.agg #[.int .i64 0, .int .i64 0, .int .i64 0]) 3 24 Try.underlying45 (by kernel_rfl) rfl (by decide) v k (keepCells (x.take k)) rfl hoA ⟨wr.heap.size, 0, none⟩ 1 1 [.int .i64 z.page, .int .i64 z.n, .int .i64 z.part] rfl rfl hcA (by intro u hu; simp only [List.mem_cons, List.not_mem_nil, or_false] at hu; rcases hu with rfl | rfl | rfl <;> rfl) (by omega) (by decide) (by omega) ?_
        intro v9 w9 hv9 hx9 hn9
        go_wp2_with fail
        refine ⟨(hUA.x _).trans hx9, ?_⟩
        dsimp only [Act.put]
        simp only [List.setIfInBounds_toArray, List.set_cons_zero, List.set_cons_succ]
        repeat (refine tree_step rfl (fun K hK => ?_); go_big_quiet_step ((intro _; rfl)); refine wpQuiet_nil (hK _ ?_); clear hK K)
        refine tree_nil ?_
        rw [← HT.out] at hv9
        have HV := Lib.hid hv9
        have HUU := Lib.hid (hu.thenx ((hUA.x _).trans hx9) fun i hi e => by have := (ho.lt i e).1; omega)
        clear hv9 hx9 hn9 hoA hcA hUA hu ho hvb
        go_wp2_with fail
        go_roundw
        case rel => exact ⟨k + 1, by omega, by simp, HV.out, HUU.out⟩
        case measure => simp [intOf]; omega
      · have hke : k = n := by omega
        subst hke
        have hl : decide ((k : Int) < (k : Int)) = false := decide_eq_false (by omega)
        rw [show x.take k = x by rw [← HN.out]; exact List.take_length] at ho
        have HO := Lib.hid ho
        clear ho
        obtain ⟨v, rfl⟩ : ∃ v, v = u4 := ⟨_, rfl⟩
        obtain ⟨B, d, hv, hd, hks, hB⟩ := (show OwnS wr w.heap.size 104 3 v x.length (keepCells x) by rw [HN.out]; exact HO.out).keeps HX.out.wf
        have HKS := Lib.hid hks
        rw [HN.out] at hv hd
        subst hv
        clear hks
        go_wp2_with fail
        go_ret2
        exact ⟨B, d, by rw [HN.out]; rfl, by rw [HN.out]; exact hd, HKS.out, hB, hu⟩
end Go.Proofs.Ytehdigkjbobndaa

/- Layer 3: the calls of a device, its blocks told; and where some blocks are to be left alone. -/
namespace Go.Proofs.Ytehdigkjbobndaa
open Go.RowKit

theorem devWrite_to (g : Nat) (S : Nat → Prop) (s : DSt) (w : World) (h : DevI w g S s) (no : Int) (A : Option Addr) (c n : Nat) (l : List Int) (hr : Rd w .u8 A c l) (hn : n = l.length) (hwr : s.wr < 1000000000000) (hA : ∀ ad, A = some ad → 0 < l.length → ¬ S ad.block) :
    Calls Try.prog 19 #[.pointer (some ⟨g, 0, none⟩), .int .i64 no, .slice A n c] w fun e w' => e = .returned (.int .i64 (devWriteR s no l)) ∧ DevTo w g S (devWriteS s no l) w' := by
  subst hn
  by_cases hb : devErr s no ≠ 0 ∨ l.length ≠ 256 ∨ useOk s = false
  · exact devWrite_bad g S s no A c l w h hr hb
  · have he : devErr s no = 0 := by
      rcases Int.decEq (devErr s no) 0 with h | h
      · exact absurd (.inl h) hb
      · exact h
    have hl : l.length = 256 := by
      rcases Nat.decEq l.length 256 with h | h
      · exact absurd (.inr (.inl h)) hb
      · exact h
    have hu : useOk s = true := by
      cases h : useOk s with
      | true => rfl
      | false => exact absurd (.inr (.inr h)) hb
    have hres : devWriteR s no l = 0 := by unfold devWriteR; rw [he, hl, hu]; simp
    rw [hres, hl]
    exact devWrite_ok g S s no A c l w h hr he hl hu hwr (fun ad e => hA ad e (by omega))
theorem devSync_to (g : Nat) (S : Nat → Prop) (s : DSt) (w : World) (h : DevI w g S s) (hsy : s.sy < 1000000000000) :
    Calls Try.prog 21 #[.pointer (some ⟨g, 0, none⟩)] w fun e w' => e = .returned (.int .i64 (syncR s)) ∧ DevTo w g S (syncS s) w' := by
  by_cases hb : s.off = true ∨ useOk s = false
  · have hr : syncR s = 9 := by unfold syncR; rw [if_pos hb]
    rw [hr]
    exact devSync_bad g S s w h hb
  · have hr : syncR s = 0 := by unfold syncR; rw [if_neg hb]
    rw [hr]
    have ho : s.off = false := by
      cases h : s.off with
      | false => rfl
      | true => exact absurd (.inl h) hb
    have hu : useOk s = true := by
      cases h : useOk s with
      | true => rfl
      | false => exact absurd (.inr h) hb
    exact devSync_ok g S s w h ho hu hsy
theorem devCrash_to (g : Nat) (S : Nat → Prop) (s : DSt) (w : World) (h : DevI w g S s) (B : Option Addr) (c n : Nat) (ks : List KeepS) (hk : KeepsR w B ks) (hn : n = ks.length) (hl : ks.length ≤ 1000) (hwr : s.wr < 1000000000000) (hB : ∀ ad, B = some ad → 0 < ks.length → ¬ S ad.block) :
    Calls Try.prog 23 #[.pointer (some ⟨g, 0, none⟩), .slice B n c] w fun e w' => e = .returned (.int .i64 (crashN s ks)) ∧ DevTo w g S (crashS s ks) w' := by
  subst hn
  exact (devCrash_calls g S s B c ks w h hk hB hl hwr).mono fun e w' ⟨h5, h6, h7⟩ => ⟨h5, S, h6, h7, fun b hb => .inl hb⟩
theorem devPower_to (g : Nat) (S : Nat → Prop) (s : DSt) (w : World) (h : DevI w g S s) :
    Calls Try.prog 24 #[.pointer (some ⟨g, 0, none⟩)] w fun e w' => e = .returned (.tuple #[]) ∧ DevTo w g S (powerS s) w' :=
  (devPower_calls g S s w h).mono fun _ _ ⟨h5, h6, h7⟩ => ⟨h5, S, h6, h7, fun _ hb => .inl hb⟩
theorem devArm_to (g : Nat) (S : Nat → Prop) (s : DSt) (w : World) (h : DevI w g S s) (x : Int) (hx : InK .i64 x) :
    Calls Try.prog 31 #[.pointer (some ⟨g, 0, none⟩), .int .i64 x] w fun e w' => e = .returned (.tuple #[]) ∧ DevTo w g S { s with armed := decide (0 ≤ x), left := x } w' :=
  (devArm_calls g S s x w h hx).mono fun _ _ ⟨h5, h6, h7⟩ => ⟨h5, S, h6, h7.mono fun _ _ e => by subst e; exact h.sg, fun _ hb => .inl hb⟩
def readS (s : DSt) (no : Int) : DSt := if devErr s no = 0 then { s with rd := s.rd + 1 } else s
def readL (s : DSt) (no : Int) : List Int := if devErr s no = 0 then devSees s no.toNat else []
/-- A page was read; the device's blocks are the same. -/
structure SeenT (w : World) (g : Nat) (S : Nat → Prop) (s : DSt) (no : Int) (en : Ending) (w' : World) : Prop where mk ::
  out : ∃ v, en = .returned (.tuple #[v, .int .i64 (devErr s no)]) ∧ Own w' w.heap.size 5 .u8 v (readL s no) ∧ DevI w' g S (readS s no) ∧ UpX (fun b => b = g) w w'
theorem devRead_to (g : Nat) (S : Nat → Prop) (s : DSt) (w : World) (h : DevI w g S s) (no : Int) (hrd : s.rd < 1000000000000) : Calls Try.prog 17 #[.pointer (some ⟨g, 0, none⟩), .int .i64 no] w (SeenT w g S s no) := by
  by_cases he : devErr s no = 0
  · obtain ⟨h4, h5, h6⟩ := devErr_zero he
    obtain ⟨i, rfl⟩ := Int.eq_ofNat_of_zero_le h5
    refine (devRead_ok g S s i w h h4 (by omega) hrd).mono fun e w' h => ?_
    obtain ⟨v, h7, h8, h9, h10⟩ := h.out
    refine ⟨v, by rw [he]; exact h7, by unfold readL; rw [if_pos he]; exact h8, by unfold readS; rw [if_pos he]; exact h9, h10⟩
  · refine (devRead_bad g S s no w h he).mono fun e w' ⟨h4, h5⟩ => ?_
    subst h5
    exact ⟨_, h4, by unfold readL; rw [if_neg he]; exact Own.nil _ _ _ _, by unfold readS; rw [if_neg he]; exact h, UpX.refl _ _⟩

/-- A device that leaves the blocks of N alone; its own ones lie below M. -/
structure DevN (N : Nat → Prop) (M : Nat) (w : World) (g : Nat) (s : DSt) : Prop where mk ::
  out : ∃ S, DevI w g S s ∧ ∀ b, S b → ¬ N b ∧ b < M
theorem DevTo.n {N : Nat → Prop} {M : Nat} {w w' : World} {g : Nat} {S : Nat → Prop} {s' : DSt} (h : DevTo w g S s' w') (hS : ∀ b, S b → ¬ N b ∧ b < M) (hN : ∀ b, N b → b < w.heap.size) : DevN N w'.heap.size w' g s' ∧ UpX (fun b => ¬ N b) w w' := by
  obtain ⟨S', h1, h2, h3⟩ := h.out
  refine ⟨⟨S', h1, fun b hb => ⟨fun hn => ?_, h1.lt b hb⟩⟩, h2.mono fun b _ hb => (hS b hb).1⟩
  rcases h3 b hb with h4 | h4
  · exact (hS b h4).1 hn
  · have := hN b hn; omega
theorem DevN.upx {N F : Nat → Prop} {M : Nat} {w w' : World} {g : Nat} {s : DSt} (h : DevN N M w g s) (hu : UpX F w w') (hF : ∀ b, F b → N b) : DevN N M w' g s := by
  obtain ⟨S, h1, h2⟩ := h.out
  exact ⟨S, h1.upx hu fun b hb hf => (h2 b hb).1 (hF b hf), h2⟩
theorem DevN.up {N : Nat → Prop} {M : Nat} {w w' : World} {g : Nat} {s : DSt} (h : DevN N M w g s) (hu : Up w w') : DevN N M w' g s := h.upx (hu.x fun _ => False) fun _ f => f.elim
theorem DevN.now {N : Nat → Prop} {M : Nat} {w : World} {g : Nat} {s : DSt} (h : DevN N M w g s) : DevN N w.heap.size w g s := by
  obtain ⟨S, h1, h2⟩ := h.out
  exact ⟨S, h1, fun b hb => ⟨(h2 b hb).1, h1.lt b hb⟩⟩
/-- All that is there but the device. -/
theorem DevI.n {w : World} {g : Nat} {S : Nat → Prop} {s : DSt} (h : DevI w g S s) : DevN (fun b => b < w.heap.size ∧ ¬ S b) w.heap.size w g s := ⟨S, h, fun b hb => ⟨fun hn => hn.2 hb, h.lt b hb⟩⟩
section
variable {N : Nat → Prop} {M : Nat} {w : World} {g : Nat} {s : DSt}
theorem DevN.write (h : DevN N M w g s) (hN : ∀ b, N b → b < w.heap.size) (no : Int) (A : Option Addr) (c n : Nat) (l : List Int) (hr : Rd w .u8 A c l) (hn : n = l.length) (hwr : s.wr < 1000000000000) (hA : ∀ ad, A = some ad → 0 < l.length → N ad.block ∨ M ≤ ad.block) :
    Calls Try.prog 19 #[.pointer (some ⟨g, 0, none⟩), .int .i64 no, .slice A n c] w fun e w' => e = .returned (.int .i64 (devWriteR s no l)) ∧ DevN N w'.heap.size w' g (devWriteS s no l) ∧ UpX (fun b => ¬ N b) w w' := by
  obtain ⟨S, h1, h2⟩ := h.out
  exact (devWrite_to g S s w h1 no A c n l hr hn hwr (fun ad e h0 hs => by
    have := h2 _ hs
    rcases hA ad e h0 with h | h
    · exact this.1 h
    · omega)).mono fun e w' ⟨h5, h6⟩ => ⟨h5, h6.n h2 hN⟩
theorem DevN.sync (h : DevN N M w g s) (hN : ∀ b, N b → b < w.heap.size) (hsy : s.sy < 1000000000000) :
    Calls Try.prog 21 #[.pointer (some ⟨g, 0, none⟩)] w fun e w' => e = .returned (.int .i64 (syncR s)) ∧ DevN N w'.heap.size w' g (syncS s) ∧ UpX (fun b => ¬ N b) w w' := by
  obtain ⟨S, h1, h2⟩ := h.out
  exact (devSync_to g S s w h1 hsy).mono fun e w' ⟨h5, h6⟩ => ⟨h5, h6.n h2 hN⟩
theorem DevN.crash (h : DevN N M w g s) (hN : ∀ b, N b → b < w.heap.size) (B : Option Addr) (c n : Nat) (ks : List KeepS) (hk : KeepsR w B ks) (hn : n = ks.length) (hl : ks.length ≤ 1000) (hwr : s.wr < 1000000000000) (hB : ∀ ad, B = some ad → 0 < ks.length → N ad.block ∨ M ≤ ad.block) :
    Calls Try.prog 23 #[.pointer (some ⟨g, 0, none⟩), .slice B n c] w fun e w' => e = .returned (.int .i64 (crashN s ks)) ∧ DevN N w'.heap.size w' g (crashS s ks) ∧ UpX (fun b => ¬ N b) w w' := by
  obtain ⟨S, h1, h2⟩ := h.out
  exact (devCrash_to g S s w h1 B c n ks hk hn hl hwr (fun ad e h0 hs => by
    have := h2 _ hs
    rcases hB ad e h0 with h | h
    · exact this.1 h
    · omega)).mono fun e w' ⟨h5, h6⟩ => ⟨h5, h6.n h2 hN⟩
theorem DevN.power (h : DevN N M w g s) (hN : ∀ b, N b → b < w.heap.size) :
    Calls Try.prog 24 #[.pointer (some ⟨g, 0, none⟩)] w fun e w' => e = .returned (.tuple #[]) ∧ DevN N w'.heap.size w' g (powerS s) ∧ UpX (fun b => ¬ N b) w w' := by
  obtain ⟨S, h1, h2⟩ := h.out
  exact (devPower_to g S s w h1).mono fun e w' ⟨h5, h6⟩ => ⟨h5, h6.n h2 hN⟩
theorem DevN.arm (h : DevN N M w g s) (hN : ∀ b, N b → b < w.heap.size) (x : Int) (hx : InK .i64 x) :
    Calls Try.prog 31 #[.pointer (some ⟨g, 0, none⟩), .int .i64 x] w fun e w' => e = .returned (.tuple #[]) ∧ DevN N w'.heap.size w' g { s with armed := decide (0 ≤ x), left := x } ∧ UpX (fun b => ¬ N b) w w' := by
  obtain ⟨S, h1, h2⟩ := h.out
  exact (devArm_to g S s w h1 x hx).mono fun e w' ⟨h5, h6⟩ => ⟨h5, h6.n h2 hN⟩
structure SeenN (N : Nat → Prop) (w : World) (g : Nat) (s : DSt) (no : Int) (en : Ending) (w' : World) : Prop where mk ::
  out : ∃ v, en = .returned (.tuple #[v, .int .i64 (devErr s no)]) ∧ Own w' w.heap.size 5 .u8 v (readL s no) ∧ DevN N w.heap.size w' g (readS s no) ∧ UpX (fun b => ¬ N b) w w'
theorem DevN.read (h : DevN N M w g s) (no : Int) (hrd : s.rd < 1000000000000) : Calls Try.prog 17 #[.pointer (some ⟨g, 0, none⟩), .int .i64 no] w (SeenN N w g s no) := by
  obtain ⟨S, h1, h2⟩ := h.out
  refine (devRead_to g S s w h1 no hrd).mono fun e w' h => ?_
  obtain ⟨v, h3, h4, h5, h6⟩ := h.out
  exact ⟨v, h3, h4, ⟨S, h5, fun b hb => ⟨(h2 b hb).1, h1.lt b hb⟩⟩, h6.mono fun b _ e => by subst e; exact (h2 b h1.sg).1⟩
end
end Go.Proofs.Ytehdigkjbobndaa

/- Layer 3: a device that is on, and isn't armed. -/
namespace Go.Proofs.Ytehdigkjbobndaa
open Go.RowKit
/-- A device that is on, and isn't armed. -/
structure Calm (s : DSt) (P : Nat) : Prop where
  off : s.off = false
  armed : s.armed = false
  pages : s.pg.length = P
theorem Calm.use {s : DSt} {P : Nat} (h : Calm s P) : useOk s = true := by unfold useOk; rw [h.armed]; rfl
theorem Calm.useS {s : DSt} {P : Nat} (h : Calm s P) : Go.Proofs.Ytehdigkjbobndaa.useS s = { s with left := wrap64 (s.left - 1) } := by unfold Go.Proofs.Ytehdigkjbobndaa.useS; rw [h.use]; rfl
theorem Calm.writeR {s : DSt} {P : Nat} (h : Calm s P) {no : Nat} (hn : no < P) {l : List Int} (hl : l.length = 256) : devWriteR s no l = 0 := by
  unfold devWriteR
  rw [devErr_ok h.off (by omega) (by rw [h.pages]; omega), h.use, hl]
  simp
theorem Calm.writeS {s : DSt} {P : Nat} (h : Calm s P) {no : Nat} (hn : no < P) {l : List Int} (hl : l.length = 256) : devWriteS s no l = { s with left := wrap64 (s.left - 1), wr := s.wr + 1, wt := fun q => if q = (no : Int) then s.wt no ++ [l] else s.wt q } := by
  unfold devWriteS
  rw [devErr_ok h.off (by omega) (by rw [h.pages]; omega), h.use, hl, h.useS]
  simp
theorem Calm.write {s : DSt} {P : Nat} (h : Calm s P) {no : Nat} (hn : no < P) {l : List Int} (hl : l.length = 256) : Calm (devWriteS s no l) P := by
  rw [h.writeS hn hl]
  exact ⟨h.off, h.armed, h.pages⟩
theorem Calm.sync {s : DSt} {P : Nat} (h : Calm s P) : syncR s = 0 ∧ Calm (syncS s) P ∧ (syncS s).wt = (fun _ => []) ∧ (syncS s).wr = s.wr ∧ (syncS s).rd = s.rd := by
  have h1 : syncR s = 0 := by unfold syncR; rw [if_neg (by rw [h.off, h.use]; simp)]
  have h2 : syncS s = { s with left := wrap64 (s.left - 1), sy := s.sy + 1, pg := (List.range s.pg.length).map (devSees s), wt := fun _ => [] } := by
    unfold syncS
    rw [if_neg (by rw [h.off]; simp), if_pos h.use, h.useS]
  rw [h2]
  exact ⟨h1, ⟨h.off, h.armed, by simp [h.pages]⟩, rfl, rfl, rfl⟩
theorem calm_sees {s : DSt} (h : s.wt = fun _ => []) (k : Nat) : devSees s k = s.pg.getD k [] := by unfold devSees; rw [h]; simp
end Go.Proofs.Ytehdigkjbobndaa
