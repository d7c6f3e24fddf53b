/- Layer 3: Crash. -/
import Derived.Test.YtehdigkjbobndaaDevK
namespace Go.Proofs.Ytehdigkjbobndaa
open Go.RowKit
set_option maxRecDepth 100000

/-- A slice of what a crash keeps. -/
structure KeepsR (w : World) (A : Option Addr) (ks : List KeepS) : Prop where
  at_ : ∀ (i : Nat) (x : KeepS), ks[i]? = some x → ∃ b o, A = some ⟨b, o, none⟩ ∧ w.cell? ⟨b, o + i * 3, none⟩ = some (.int .i64 x.page) ∧ w.cell? ⟨b, o + i * 3 + 1, none⟩ = some (.int .i64 x.n) ∧ w.cell? ⟨b, o + i * 3 + 2, none⟩ = some (.int .i64 x.part)
  wf : ∀ x ∈ ks, KeepIn x
theorem KeepsR.upx {w w' : World} {F : Nat → Prop} {A : Option Addr} {ks : List KeepS} (h : KeepsR w A ks) (hu : UpX F w w') (hF : ∀ ad, A = some ad → 0 < ks.length → ¬ F ad.block) : KeepsR w' A ks :=
  ⟨fun i x hx => by
    obtain ⟨b, o, rfl, h1, h2, h3⟩ := h.at_ i x hx
    have hn : ¬ F b := hF _ rfl (by have := (List.getElem?_eq_some_iff.1 hx).1; omega)
    exact ⟨b, o, rfl, hu.cell h1 hn, hu.cell h2 hn, hu.cell h3 hn⟩, h.wf⟩
theorem KeepsR.up {w w' : World} {A : Option Addr} {ks : List KeepS} (h : KeepsR w A ks) (hu : Up w w') : KeepsR w' A ks := h.upx (hu.x fun _ => False) fun _ _ _ f => f
theorem crashOne_n (s : CrS) (k : KeepS) (M : Nat) (h : ∀ p, (s.wt p).length ≤ M) : (crashOne s k).n ≤ s.n + M ∧ ∀ p, ((crashOne s k).wt p).length ≤ M := by
  unfold crashOne
  split
  · exact ⟨by omega, h⟩
  · refine ⟨by simp only; have := h k.page; unfold kept; omega, fun p => ?_⟩
    simp only
    split
    · simp
    · exact h p
theorem crashAll_take (ks : List KeepS) (s : CrS) {k : Nat} {x : KeepS} (h : ks[k]? = some x) : crashAll (ks.take (k + 1)) s = crashOne (crashAll (ks.take k) s) x := by
  obtain ⟨hk, rfl⟩ := List.getElem?_eq_some_iff.1 h
  unfold crashAll
  rw [List.take_succ_eq_append_getElem hk, List.foldl_append]
  rfl
theorem crashAll_n (M : Nat) : ∀ (ks : List KeepS) (s : CrS), (∀ p, (s.wt p).length ≤ M) → (crashAll ks s).n ≤ s.n + ks.length * M
  | [], s, _ => by simp [crashAll]
  | k :: ks, s, h => by
    obtain ⟨h1, h2⟩ := crashOne_n s k M h
    have := crashAll_n M ks (crashOne s k) h2
    show (crashAll ks (crashOne s k)).n ≤ _
    rw [List.length_cons, Nat.succ_mul]
    omega
/-- Crash. -/
def crashS (s : DSt) (ks : List KeepS) : DSt := { s with off := true, pg := (crashAll ks ⟨s.pg, s.wt, 0⟩).pg, wt := fun _ => [] }
def crashN (s : DSt) (ks : List KeepS) : Nat := (crashAll ks ⟨s.pg, s.wt, 0⟩).n
abbrev crSt (s : DSt) (c : CrS) : DSt := { s with pg := c.pg, wt := c.wt }
set_option maxHeartbeats 4000000 in
theorem devCrash_calls (g : Nat) (S : Nat → Prop) (s : DSt) (B : Option Addr) (c : Nat) (ks : List KeepS) (w : World) (h : DevI w g S s) (hk : KeepsR w B ks) (hB : ∀ ad, B = some ad → 0 < ks.length → ¬ S ad.block) (hl : ks.length ≤ 1000) (hwr : s.wr < 1000000000000) :
    Calls Try.prog 23 #[.pointer (some ⟨g, 0, none⟩), .slice B ks.length c] w fun e w' => e = .returned (.int .i64 (crashN s ks)) ∧ DevI w' g S (crashS s ks) ∧ UpX S w w' := by
  have HI := Lib.hid h
  have HW := Lib.hid hwr
  have HB := Lib.hid hB
  have HL := Lib.hid fun k => (show (crashAll (ks.take k) ⟨s.pg, s.wt, 0⟩).n ≤ 1000000000000000 by
    have h1 := crashAll_n s.wr (ks.take k) ⟨s.pg, s.wt, 0⟩ (fun p => h.ok.wmax p)
    have h2 : (ks.take k).length * s.wr ≤ 1000 * 1000000000000 := Nat.mul_le_mul (by rw [List.length_take]; omega) (by omega)
    simp only [Nat.zero_add] at h1
    omega)
  have HO := Lib.hid h.ok
  clear h hB hwr
  go_enter Try.func23, Try.ntmps23
  go_wp2_with fail
  go_loopw [5, 7, 12] (fun nv _ i wr => ∃ k : Nat, k ≤ ks.length ∧ i = .int .i64 k ∧ nv = .int .i64 ((crashAll (ks.take k) ⟨s.pg, s.wt, 0⟩).n : Nat) ∧ Hid (DevI wr g S (crSt s (crashAll (ks.take k) ⟨s.pg, s.wt, 0⟩))) ∧ UpX S w wr) (fun _ _ i _ => ks.length - (intOf i).toNat)
  case atStart => exact ⟨0, Nat.zero_le _, rfl, rfl, HI, UpX.refl _ _⟩
  case round =>
    clear HI
    obtain ⟨k, hkl, rfl, rfl, HD, hu⟩ := hrel
    by_cases hlt : k < ks.length
    · obtain ⟨z, hz⟩ : ∃ z, ks[k]? = some z := ⟨_, List.getElem?_eq_getElem hlt⟩
      have HS := Lib.hid (crashAll_take ks ⟨s.pg, s.wt, 0⟩ hz)
      have hle := HL.out k
      have hle1 := HL.out (k + 1)
      obtain ⟨bz, oz, rfl, q0, q1, q2⟩ := hk.at_ k z hz
      have hbz : ¬ S bz := HB.out _ rfl (by omega)
      replace q0 := hu.cell q0 hbz
      replace q1 := hu.cell q1 hbz
      replace q2 := hu.cell q2 hbz
      have hzi := hk.wf z (List.mem_of_getElem? hz)
      generalize hcA : crashAll (ks.take k) ⟨s.pg, s.wt, 0⟩ = cA at *
      generalize hcB : crashAll (ks.take (k + 1)) ⟨s.pg, s.wt, 0⟩ = cB at *
      have HCB := Lib.hid hcB
      clear hz hcA hcB
      have hX0 := Blk.new wr 104 #[.int .i64 0, .int .i64 0, .int .i64 0]
      have z0 := hX0.cell 0
      have z1 := hX0.cell 1
      have z2 := hX0.cell 2
      simp only [List.getElem?_toArray, List.getElem?_cons_succ, List.getElem?_cons_zero] at z0 z1 z2
      have y0 := hX0.frozen 0
      have y1 := hX0.frozen 1
      have y2 := hX0.frozen 2
      clear hX0
      have hua : Up wr (wr.alloc (.cells #[Value.int .i64 z.page, .int .i64 z.n, .int .i64 z.part] 104)) := (Up.refl wr).alloc _
      have hBx := Blk.new wr 104 #[Value.int .i64 z.page, .int .i64 z.n, .int .i64 z.part]
      go_wp2_with fail
      clear z0 z1 z2 y0 y1 y2 q0 q1 q2
      have hd0 := HD.out.up hua
      have hrS : ∀ b, S b → b < wr.heap.size := HD.out.lt
      generalize wr.alloc (.cells #[Value.int .i64 z.page, .int .i64 z.n, .int .i64 z.part] 104) = w1 at *
      generalize wr.heap.size = r at *
      have c0 : w1.cell? ⟨r, 0, none⟩ = some (.int .i64 z.page) := hBx.cell 0
      have c1 : w1.cell? ⟨r, 1, none⟩ = some (.int .i64 z.n) := hBx.cell 1
      have c2 : w1.cell? ⟨r, 2, none⟩ = some (.int .i64 z.part) := hBx.cell 2
      have HU1 := Lib.hid (hu.trans (hua.x S))
      obtain ⟨gl, cap, bm, n, f, hd⟩ := hd0.out
      have g7 : w1.cell? ⟨g, 7, none⟩ = some (.map (some bm)) := hd.b.cell 7
      have hlk : ∀ w', Up w1 w' → (Instr.lookup 91 (.map (some bm)) (.int .i64 z.page) false).run Try.prog w' = .ok ((f z.page).getD (.slice none 0 0)) w' := fun w' hu => (hd.up hu).look z.page hzi.page
      have HLK := Lib.hid hlk
      have HDX := Lib.hid hd
      have hfz : ∃ A d, (f z.page).getD (.slice none 0 0) = .slice A (cA.wt z.page).length d ∧ (cA.wt z.page).length ≤ 9223372036854775807 := by
        rcases hd.wts.at_ z.page with ⟨h1, h2⟩ | ⟨v', h1, h2, h3⟩
        · exact ⟨none, 0, by rw [h1]; rw [show (crSt s cA).wt z.page = cA.wt z.page from rfl] at h2; rw [h2]; rfl, by rw [show (crSt s cA).wt z.page = cA.wt z.page from rfl] at h2; rw [h2]; simp⟩
        · obtain ⟨A, d, rfl, _, h5⟩ := h3.slice
          exact ⟨A, d, by rw [h1]; rfl, h5.mx⟩
      obtain ⟨A, d, hf1, hmx⟩ := hfz
      rw [hf1] at HLK
      obtain ⟨m, hm⟩ : ∃ m, (cA.wt z.page).length = m := ⟨_, rfl⟩
      rw [hm] at HLK hmx
      have HM := Lib.hid hm
      have HKP := Lib.hid fun w9 (h9 : DevI w9 g S (crSt s cA)) hw => devkeep_calls g S (crSt s cA) z w9 h9 hzi hw
      clear hm hlk hf1 hd hd0 hua hu HD hBx
      refine wp_region_tree (fun w9 => Up w1 w9) (.quiet 0 (.quiet 1 (.quiet 2 (.quiet 3 (.quiet 4 (.quiet 5 (.quiet 6 (.quiet 7 (.quiet 8 (.nil)))))))))) (by kernel_rfl) (by kernel_rfl) rfl (by kernel_rfl) (by kernel_rfl) ((Up.refl w1).drew) ?_
      simp only [pickT, List.getElem?_cons_succ, List.getElem?_cons_zero, Option.getD_some]
      repeat (refine tree_step rfl (fun K hK => ?_); go_big_quiet_step ((intro _; rfl)); refine wpQuiet_nil (hK _ ?_); clear hK K)
      refine tree_load ⟨g, 7, none⟩ (.map (some bm)) (by kernel_rfl) rfl (by kernel_rfl) (fun w' h => h.cell g7) ?_
      dsimp only [Act.put]
      simp only [List.setIfInBounds_toArray, List.set_cons_zero, List.set_cons_succ]
      repeat (refine tree_step rfl (fun K hK => ?_); go_big_quiet_step ((intro _; rfl)); refine wpQuiet_nil (hK _ ?_); clear hK K)
      refine tree_load ⟨r, 0, none⟩ (.int .i64 z.page) (by kernel_rfl) rfl (by kernel_rfl) (fun w' h => h.cell c0) ?_
      dsimp only [Act.put]
      simp only [List.setIfInBounds_toArray, List.set_cons_zero, List.set_cons_succ]
      repeat (refine tree_step rfl (fun K hK => ?_); go_big_quiet_step ((intro _; rfl)); refine wpQuiet_nil (hK _ ?_); clear hK K)
      refine tree_lookup bm z.page (.slice A m d) (by kernel_rfl) rfl rfl HLK.out ?_
      dsimp only [Act.put]
      simp only [List.setIfInBounds_toArray, List.set_cons_zero, List.set_cons_succ]
      repeat (refine tree_step rfl (fun K hK => ?_); go_big_quiet_step ((intro _; rfl)); refine wpQuiet_nil (hK _ ?_); clear hK K)
      refine tree_nil ?_
      have hud : Up w1 w1.drew := (Up.refl w1).drew
      by_cases hm0 : m = 0
      · have HE := Lib.hid (show cB = cA by
          rw [HS.out]
          unfold crashOne
          rw [if_pos (List.eq_nil_of_length_eq_zero (by rw [HM.out, hm0]))])
        subst hm0
        go_wp2_with fail
        go_roundw
        case rel => exact ⟨k + 1, by omega, by simp, by rw [HCB.out, HE.out], Lib.hid (by rw [HCB.out, HE.out]; exact ⟨_, _, _, _, _, HDX.out.up hud⟩), HU1.out.trans (hud.x S)⟩
        case measure => simp [intOf]; omega
      · have hmp : 0 < m := by omega
        have hmb : (0 : Int) < (m : Int) := by omega
        have hwn : cA.wt z.page ≠ [] := fun e => by have := HM.out; rw [e] at this; simp at this; omega
        have HKC := Lib.hid (HKP.out w1.drew ⟨_, _, _, _, _, HDX.out.up hud⟩ hwn)
        have d0 : w1.drew.cell? ⟨r, 0, none⟩ = some (.int .i64 z.page) := c0
        have d1 : w1.drew.cell? ⟨r, 1, none⟩ = some (.int .i64 z.n) := c1
        have d2 : w1.drew.cell? ⟨r, 2, none⟩ = some (.int .i64 z.part) := c2
        clear HKP hm0
        have HE := Lib.hid (show cB.n = cA.n + kept z (cA.wt z.page).length ∧ keepS (crSt s cA) z = crSt s cB by
          rw [HS.out]
          unfold crashOne
          rw [if_neg hwn]
          exact ⟨rfl, rfl⟩)
        have hks : kept z (cA.wt z.page).length ≤ 1000000000000000 := by have := HE.out.1; omega
        rw [show (crSt s cA).wt z.page = cA.wt z.page from rfl] at HKC
        generalize kept z (cA.wt z.page).length = kz at *
        clear hwn
        go_wp2_with fail
        refine (HKC.out).mono ?_
        rintro en w2 ⟨rfl, hd2, hx2⟩
        rw [HE.out.2] at hd2
        have HD2 := Lib.hid hd2
        clear hd2
        go_wp2_with fail
        go_roundw
        case rel => exact ⟨k + 1, by omega, by simp, by rw [HCB.out, HE.out.1]; simp, Lib.hid (by rw [HCB.out]; exact HD2.out), (HU1.out.trans (hud.x S)).trans hx2⟩
        case measure => simp [intOf]; omega
    · have hke : k = ks.length := by omega
      subst hke
      rw [List.take_length] at HD
      have hle := HL.out ks.length
      rw [List.take_length] at hle
      have hTL : ks.take ks.length = ks := List.take_length
      have HTL := Lib.hid hTL
      clear hTL
      rw [HTL.out]
      have HN := Lib.hid (show crashN s ks = (crashAll ks ⟨s.pg, s.wt, 0⟩).n from rfl)
      have HSS := Lib.hid (show crashS s ks = { s with off := true, pg := (crashAll ks ⟨s.pg, s.wt, 0⟩).pg, wt := fun _ => [] } from rfl)
      generalize crashAll ks ⟨s.pg, s.wt, 0⟩ = cA at *
      obtain ⟨gl, cap, bm, n, f, hd⟩ := HD.out.out
      have g7 : wr.cell? ⟨g, 7, none⟩ = some (.map (some bm)) := hd.b.cell 7
      have hmap := hd.map
      have HDX := Lib.hid hd
      clear HD hd
      have HC5 := Lib.hid fun w5 hx5 hm5 => HDX.out.cleared (w' := w5) hx5 hm5
      go_wp2_with (refine wpl_mapClear wr rfl _ 91 3 rfl 55 Try.underlying91 bm n f rfl hmap ?_; intro w5 hm5 hx5; have e0 : w5.cell? ⟨g, 0, none⟩ = some (.bool s.off) := (HC5.out w5 hx5 hm5).b.cell 0; have e1 := (HC5.out w5 hx5 hm5).b.frozen 0)
      go_ret
      have hd5 := HC5.out w5 hx5 hm5
      have hfin := hd5.cells (s' := { s with off := true, pg := cA.pg, wt := fun _ => [] }) (UpX.one w5 g 0 (.bool true)) (hd5.b.set 0 (.bool true)) rfl rfl (Nat.le_refl _) hd5.ok.left
      refine ⟨?_, ⟨_, _, _, _, _, by rw [HSS.out]; exact hfin⟩, ?_⟩
      · rw [HN.out]; rfl
      · exact (hu.trans (hx5.mono fun b _ e => by subst e; exact HDX.out.sbm)).trans ((UpX.one w5 g 0 (.bool true)).mono fun b _ e => by subst e; exact HDX.out.sg)
end Go.Proofs.Ytehdigkjbobndaa
