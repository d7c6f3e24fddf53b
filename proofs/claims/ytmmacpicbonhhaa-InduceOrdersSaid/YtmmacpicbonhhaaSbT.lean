/- The walk of law 16's turn: a list in another order. -/
import Derived.Test.YtmmacpicbonhhaaSbN
namespace Go.Proofs.Ytmmacpicbonhhaa.SalPure
open Go.RowKit Go.Proofs.Ytmmacpicbonhhaa
set_option maxRecDepth 100000
set_option linter.unusedVariables false

theorem swap_perm (xs : List Int) (a b : Nat) (ha : a < xs.length) (hb : b < xs.length) : ((xs.set a (xs.getD b 0)).set b (xs.getD a 0)).Perm xs := by
  have e1 : xs.getD a 0 = xs[a] := by rw [List.getD_eq_getElem?_getD, List.getElem?_eq_getElem ha]; rfl
  have e2 : xs.getD b 0 = xs[b] := by rw [List.getD_eq_getElem?_getD, List.getElem?_eq_getElem hb]; rfl
  rw [e1, e2]
  exact List.set_set_perm ha hb

set_option maxHeartbeats 4000000 in
theorem turn_calls (A B : Option Addr) (c d : Nat) (l by_ : List Int) (w : World) (h1 : Rd w .i64 A c l) (h2 : Rd w .i64 B d by_) (hl : l.length ≤ 65536) :
    Calls Try.prog 11 #[.slice A l.length c, .slice B by_.length d] w fun e w' => ∃ v ys, e = .returned v ∧ ys.Perm l ∧ Own w' w.heap.size 3 .i64 v ys ∧ Up w w' := by
  have hbl := h2.len
  have hoE : Own (w.alloc (.cells #[] 3)) w.heap.size 3 .i64 (.slice (some ⟨w.heap.size, 0, none⟩) 0 0) [] := Own.lit w _ _ _ [] (Nat.le_refl _) (by simp) (by simp) 0 rfl _ rfl
  have hue : Up w (w.alloc (.cells #[] 3)) := (Up.refl w).alloc _
  go_enter Try.func11, Try.ntmps11
  go_wp2_with (refine wpl_append (t := 22) w.heap.size 3 .i64 8 Try.underlying22 infoInt' (.slice (some ⟨w.heap.size, 0, none⟩) 0 0) [] rfl hoE A _ c l rfl rfl (h1.up hue) (by simp; omega) (by decide) hue.size ?_; intro v1 w1 hv1 hu1 _)
  have hU1 : Up w w1 := hue.thenx hu1 fun i hi e => by have e' : w.heap.size = i := Option.some.inj e; omega
  rw [List.nil_append] at hv1
  obtain ⟨A1, c1, rfl, hr1⟩ := hv1.rd
  clear hu1 hoE hue hr1
  go_loopw [6, 7, 8] (fun i _ _ wr => ∃ (k : Nat) (xs : List Int), k ≤ by_.length ∧ i = .int .i64 k ∧ Hid (xs.Perm l) ∧ Own wr w.heap.size 3 .i64 (.slice A1 l.length c1) xs ∧ Up w wr) (fun i _ _ _ => by_.length - (intOf i).toNat)
  case atStart => exact ⟨0, l, Nat.zero_le _, rfl, Lib.hid (List.Perm.refl _), hv1, hU1⟩
  case round =>
    clear hv1 hU1
    obtain ⟨k, xs, hk, rfl, HP, hO, hU⟩ := hrel
    have HO := Lib.hid hO
    have HU := Lib.hid hU
    have hxl := HP.out.length_eq
    by_cases hlt : k < by_.length
    · by_cases h60 : k < 60
      · by_cases hl1 : 1 < l.length
        · obtain ⟨adb, v, rfl, hcb, _, _⟩ := (h2.up hU).get k hlt
          have hr := tm_range v l.length (by omega) (by omega)
          generalize hb : wrap64 (Int.tmod (IntKind.u64.wrap v) (IntKind.u64.wrap (l.length : Int))) = bb at *
          obtain ⟨b, rfl⟩ := Int.eq_ofNat_of_zero_le hr.1
          have hbl2 : b < l.length := by omega
          have hml := Nat.mod_lt k (show 0 < l.length by omega)
          have hme : (k : Int) % (l.length : Int) = ((k % l.length : Nat) : Int) := by simp
          have haL := Lib.hid (show k % l.length < xs.length ∧ b < xs.length by omega)
          have HXL := Lib.hid hxl
          clear hr hO hU hxl
          go_wp2_with fail
          refine wp_region_tree (Cells [(adb.add k, .int .i64 v)]) (.quiet 0 (.quiet 1 (.quiet 2 (.quiet 3 (.quiet 9 (.quiet 10 (.quiet 14 (.quiet 4 (.quiet 5 (.quiet 6 (.quiet 7 (.quiet 8 (.quiet 11 (.quiet 12 (.quiet 13 (.quiet 15 (.nil))))))))))))))))) (by kernel_rfl) (by kernel_rfl) rfl (by kernel_rfl) (by kernel_rfl) (Cells.cons hcb (Cells.nil _)) ?_
          simp only [pickT, List.getElem?_cons_succ, List.getElem?_cons_zero, Option.getD_some]
          repeat (refine tree_step rfl (fun K hK => ?_); go_big_quiet_step ((intro _; rfl)); refine wpQuiet_nil (hK _ ?_); clear hK K)
          refine tree_load (adb.add k) (.int .i64 v) (by kernel_rfl) rfl (by kernel_rfl) (fun w' h => h.head) ?_
          dsimp only [Act.put]
          simp only [List.setIfInBounds_toArray, List.set_cons_zero, List.set_cons_succ]
          repeat (refine tree_step rfl (fun K hK => ?_); go_big_quiet_step ((intro _; rfl)); refine wpQuiet_nil (hK _ ?_); clear hK K)
          refine tree_nil ?_
          have hb2 : wrap64 (Int.tmod (IntKind.u64.wrap v) (l.length : Int)) = (b : Int) := by
            rw [← hb, show IntKind.u64.wrap (l.length : Int) = (l.length : Int) by rw [IntKind.wrap_u64]; omega]
          rw [hme, hb2]
          clear hb hb2 hme hcb
          generalize k % l.length = a at *
          have hUd := (HU.out.drew).drew
          have hOd := (HO.out.up ((Up.refl wr).drew)).up ((Up.refl wr.drew).drew)
          generalize hW : wr.drew.drew = W at *
          obtain ⟨g, c', e, hg, hca, hfa, hsa⟩ := hOd.store a haL.out.1
          obtain ⟨g', c'', e', _, hcb, hfb, _⟩ := hOd.store b haL.out.2
          rw [HXL.out] at e e'
          cases e
          cases e'
          have hwa : InK .i64 (xs.getD a 0) := hOd.wf _ (getD_mem _ _ _ haL.out.1)
          have hwb : InK .i64 (xs.getD b 0) := hOd.wf _ (getD_mem _ _ _ haL.out.2)
          have hO1 := hsa _ hwb
          obtain ⟨g', c'', e', _, hcb1, hfb1, hsb⟩ := hO1.store b (by rw [List.length_set]; exact haL.out.2)
          rw [List.length_set, HXL.out] at e'
          cases e'
          have HO2 := Lib.hid (hsb _ hwa)
          have HU2 := Lib.hid ((hUd.setCell (p := ⟨g, a, none⟩) hg (.int .i64 (xs.getD b 0))).setCell (p := ⟨g, b, none⟩) hg (.int .i64 (xs.getD a 0)))
          have hab := haL.out
          rw [HXL.out] at hab
          have HP2 := Lib.hid ((swap_perm xs a b haL.out.1 haL.out.2).trans HP.out)
          generalize hva : xs.getD a 0 = va at *
          generalize hvb : xs.getD b 0 = vb at *
          generalize (xs.set a vb).getD b 0 = vz at *
          have HVA := Lib.hid hva
          have HVB := Lib.hid hvb
          clear hOd hUd hO1 hsa hsb hva hvb hwa hwb
          go_wp2_with fail
          refine wp_region_tree (fun _ => True) (.quiet 0 (.quiet 1 (.quiet 2 (.quiet 3 (.quiet 4 (.quiet 5 (.quiet 6 (.quiet 8 (.quiet 9 (.quiet 10 (.alt 7 (.alt 11 (.quiet 12 (.alt 13 (.quiet 14 (.alt 15 (.nil) (.stop))) (.stop))) (.stop)) (.alt 11 (.alt 7 (.quiet 12 (.alt 13 (.quiet 14 (.alt 15 (.nil) (.stop))) (.stop))) (.stop)) (.stop))))))))))))) (by kernel_rfl) (by kernel_rfl) rfl (by kernel_rfl) (by kernel_rfl) trivial ?_
          simp only [pickT, List.getElem?_cons_succ, List.getElem?_cons_zero, Option.getD_some]
          rw [hW]
          repeat (refine tree_step rfl (fun K hK => ?_); go_big_quiet_step ((intro _; rfl)); refine wpQuiet_nil (hK _ ?_); clear hK K)
          refine tree_alt (fun K hK => ?_) ?_
          · skip
            go_wp2_with fail
            refine ⟨trivial, ?_⟩
            refine tree_do (fun K hK => ?_)
            go_wp2_with fail
            refine ⟨trivial, ?_⟩
            repeat (refine tree_step rfl (fun K hK => ?_); go_big_quiet_step ((intro _; rfl)); refine wpQuiet_nil (hK _ ?_); clear hK K)
            refine tree_do (fun K hK => ?_)
            go_wp2_with fail
            refine ⟨trivial, ?_⟩
            repeat (refine tree_step rfl (fun K hK => ?_); go_big_quiet_step ((intro _; rfl)); refine wpQuiet_nil (hK _ ?_); clear hK K)
            refine tree_do (fun K hK => ?_)
            go_wp2_with fail
            refine ⟨trivial, ?_⟩
            refine tree_nil ?_
            go_wp2_with fail
            refine ⟨⟨k + 1, (xs.set a vb).set b va, by omega, by simp, HP2, HO2.out, HU2.out⟩, ?_⟩
            simp [intOf]; omega
          · skip
            refine tree_do (fun K hK => ?_)
            go_wp2_with fail
            refine ⟨trivial, ?_⟩
            refine tree_do (fun K hK => ?_)
            go_wp2_with fail
            refine ⟨trivial, ?_⟩
            repeat (refine tree_step rfl (fun K hK => ?_); go_big_quiet_step ((intro _; rfl)); refine wpQuiet_nil (hK _ ?_); clear hK K)
            refine tree_do (fun K hK => ?_)
            go_wp2_with fail
            refine ⟨trivial, ?_⟩
            repeat (refine tree_step rfl (fun K hK => ?_); go_big_quiet_step ((intro _; rfl)); refine wpQuiet_nil (hK _ ?_); clear hK K)
            refine tree_do (fun K hK => ?_)
            go_wp2_with fail
            refine ⟨trivial, ?_⟩
            refine tree_nil ?_
            go_wp2_with fail
            refine ⟨⟨k + 1, (xs.set a vb).set b va, by omega, by simp, HP2, HO2.out, HU2.out⟩, ?_⟩
            simp [intOf]; omega
        · have hd1 : decide ((1 : Int) < (l.length : Int)) = false := decide_eq_false (by omega)
          have hd2 : decide ((l.length : Int) > 1) = false := decide_eq_false (by omega)
          clear hO hU
          go_wp2_with fail
          go_ret
          first | exact ⟨_, xs, rfl, HP.out, HO.out, HU.out⟩ | exact ⟨_, rfl, xs, HP.out, HO.out, HU.out⟩
      · clear hO hU
        go_wp2_with fail
        go_ret
        first | exact ⟨_, xs, rfl, HP.out, HO.out, HU.out⟩ | exact ⟨_, rfl, xs, HP.out, HO.out, HU.out⟩
    · clear hO hU
      go_wp2_with fail
      go_ret
      first | exact ⟨_, xs, rfl, HP.out, HO.out, HU.out⟩ | exact ⟨_, rfl, xs, HP.out, HO.out, HU.out⟩
end Go.Proofs.Ytmmacpicbonhhaa.SalPure
