/- Layer 14: the walk of the document's Docs. -/
import Derived.Test.YtneliajeokajbaaAlpha5
import Derived.Test.YtneliajeokajbaaPiT
namespace Go.Proofs.Ytneliajeokajbaa
open Go.RowKit
set_option maxRecDepth 100000

structure RDocsPost (w : World) (r : Option (List (List Int))) (en : Ending) (w' : World) : Prop where mk ::
  up : Up w w'
  out : (r = none ∧ ∃ v, en = .returned (.tuple #[v, .bool false])) ∨ ∃ ds B d, r = some ds ∧ en = .returned (.tuple #[.slice B ds.length d, .bool true]) ∧ RdL w' .u8 B d ds

structure RDocsRel (w : World) (r : Option (List (List Int))) (rest : List Int) (k : Nat) (o d b : Value) (wr : World) : Prop where mk ::
  out : ∃ acc doc m m0, r = rdocs rest acc doc ∧ OwnL wr w.heap.size 76 5 .u8 m o acc ∧ Own wr m0 5 .u8 d doc ∧ b = .bool (decide (doc ≠ [])) ∧ m ≤ wr.heap.size ∧ w.heap.size ≤ m ∧ w.heap.size ≤ m0 ∧ acc.length ≤ k ∧ doc.length ≤ k ∧ Up w wr

set_option maxHeartbeats 2000000 in
theorem ref14Docs_calls (A : Option Addr) (c : Nat) (text : List Int) (w : World) (h1 : Rd w .i64 A c text) (hb : text.length ≤ 65536) :
    Calls Try.prog 19 #[.slice A text.length c] w (RDocsPost w (docsOf text)) := by
  generalize hr : docsOf text = r
  have HR := Lib.hid hr
  clear hr
  go_enter Try.func19, Try.ntmps19
  go_wp2_with fail
  go_loopw [4, 5, 6, 7, 8] (fun o d b i _ wr => ∃ k : Nat, k ≤ text.length ∧ i = .int .i64 k ∧ RDocsRel w r (text.drop k) k o d b wr) (fun _ _ _ i _ _ => text.length - (intOf i).toNat)
  case atStart => exact ⟨0, by omega, rfl, ⟨[], [], w.heap.size, w.heap.size, HR.out.symm, OwnL.nil _ _ _ _ _ _, Own.nil _ _ _ _, rfl, by omega, by omega, by omega, by simp, by simp, Up.refl _⟩⟩
  case round =>
    obtain ⟨k, hk, rfl, hrel⟩ := hrel
    obtain ⟨acc, doc, m, m0, hds, ho, hd, rfl, hm, hwm, hwm0, hal, hdl, hu⟩ := hrel.out
    have HDS := Lib.hid hds
    clear hds hrel HR
    by_cases hlt : k < text.length
    · obtain ⟨ad, x, rfl, hcx, HX, hxr⟩ := h1.get k hlt
      have hcx' := hu.cell hcx
      have HT := Lib.hid (show text.drop k = x :: text.drop (k + 1) by
        rw [List.drop_eq_getElem_cons hlt, ← HX.out]
        simp [List.getD_eq_getElem?_getD, List.getElem?_eq_getElem hlt])
      have HT2 := Lib.hid (show text.drop (k + 1) = [] ↔ k = text.length - 1 by rw [List.drop_eq_nil_iff]; omega)
      rw [HT.out] at HDS
      generalize hT : text.drop (k + 1) = T at *
      have HTT := Lib.hid hT
      clear hT
      by_cases hx0 : x = 0
      · subst hx0
        have HD1 := Lib.hid (HDS.out.trans (by rw [rdocs, if_pos rfl]))
        clear HDS
        obtain ⟨B, d, rfl, hrd⟩ := ho.rd
        by_cases hlast : k = text.length - 1
        · have hT := HT2.out.2 hlast
          subst hT
          have hll : ((k : Int) == (text.length : Int) - 1) = true := by simp; omega
          clear hlast HT2
          cases doc with
          | nil =>
            have HDN := Lib.hid (HD1.out.trans (if_pos ⟨rfl, rfl⟩))
            go_wp2_with fail
            go_ret2
            exact ⟨hu, .inr ⟨acc, B, d, HDN.out, rfl, hrd⟩⟩
          | cons y doc =>
            have HDN := Lib.hid (HD1.out.trans (if_neg (by simp)))
            go_wp2_with fail
            go_ret2
            exact ⟨hu, .inl ⟨HDN.out, _, rfl⟩⟩
        · have hll : ((k : Int) == (text.length : Int) - 1) = false := by simp; omega
          have HDN := Lib.hid (HD1.out.trans (if_neg (fun h => hlast (HT2.out.1 h.1))))
          clear HD1
          go_wp2_with fail
          go_ret2
          exact ⟨hu, .inl ⟨HDN.out, _, rfl⟩⟩
      · have hxb0 : (x == 0) = false := by simpa using hx0
        have HD0 := Lib.hid (HDS.out.trans (by rw [rdocs, if_neg hx0]))
        clear HDS HT2
        generalize hbb : decide (doc ≠ []) = bb
        clear hbb
        by_cases hx1 : x = 1
        · subst hx1
          have HD1 := Lib.hid (HD0.out.trans (if_pos rfl))
          clear HD0
          go_wp2_with (refine wpl_pushL (t := 22) w.heap.size 76 5 .u8 m Try.underlying22 infoBytes8 (by decide) _ acc m0 _ doc rfl (fun _ => rfl) (fun _ => rfl) ho hd hm (by omega) hu.size ?_; intro v1 w1 hv1 hu1)
          have hlo := ho.lt
          go_roundw
          case rel =>
            have hU : Up w w1 := hu.thenx hu1 fun i hi e => by have := (hlo i e).1; omega
            exact ⟨k + 1, by omega, by simp, ⟨acc ++ [doc], [], wr.heap.size, w.heap.size, by rw [HTT.out]; exact HD1.out, hv1, Own.nil _ _ _ _, rfl, hu1.size, hu.size, by omega, by rw [List.length_append, List.length_singleton]; omega, by simp, hU⟩⟩
          case measure => simp [intOf]; omega
        · have hxb1 : (x == 1) = false := by simpa using hx1
          have HD1 := Lib.hid (HD0.out.trans (if_neg hx1))
          clear HD0
          by_cases hx2 : 2 ≤ x ∧ x ≤ 257
          · have HD2 := Lib.hid (HD1.out.trans (if_pos hx2))
            obtain ⟨hx3, hx4⟩ := hx2
            have hi := InK.of_u8 (x := x - 2) (by omega) (by omega)
            clear HD1
            obtain ⟨B, dd, rfl, hrdD⟩ := hd.rd
            go_wp2_with fail
            refine wp_region_tree (fun w' => Up w w') (.quiet 1 (.quiet 3 (.quiet 4 (.quiet 5 (.quiet 6 (.quiet 7 (.quiet 8 (.alt 0 (.alt 2 (.alt 9 (.alt 10 (.quiet 11 (.quiet 12 (.nil))) (.stop)) (.stop)) (.alt 9 (.alt 2 (.alt 10 (.quiet 11 (.quiet 12 (.nil))) (.stop)) (.stop)) (.stop))) (.alt 9 (.alt 0 (.alt 2 (.alt 10 (.quiet 11 (.quiet 12 (.nil))) (.stop)) (.stop)) (.stop)) (.stop)))))))))) (by kernel_rfl) (by kernel_rfl) rfl (by kernel_rfl) (by kernel_rfl) hu.drew ?_
            simp only [pickT, List.getElem?_cons_succ, List.getElem?_cons_zero, Option.getD_some]
            repeat (refine tree_step rfl (fun K hK => ?_); go_big_quiet_step ((intro _; rfl)); refine wpQuiet_nil (hK _ ?_); clear hK K)
            refine tree_load (ad.add k) (.int .i64 x) (by kernel_rfl) rfl (by kernel_rfl) (fun w' h => h.cell hcx) ?_
            dsimp only [Act.put]
            simp only [List.setIfInBounds_toArray, List.set_cons_zero, List.set_cons_succ]
            repeat (refine tree_step rfl (fun K hK => ?_); go_big_quiet_step ((intro _; rfl)); refine wpQuiet_nil (hK _ ?_); clear hK K)
            refine tree_alt (fun K hK => ?_) ?_
            · go_wp2_with fail
              have hE : Up wr (wr.alloc (.cells #[] 5)).drew := ((Up.refl _).alloc _).drew
              refine ⟨hu.trans hE, ?_⟩
              have hoE : Own (wr.alloc (.cells #[] 5)).drew wr.heap.size 5 .u8 (.slice (some ⟨wr.heap.size, 0, none⟩) 0 0) [] := (own_empty wr 5 .u8).up ((Up.refl _).drew)
              generalize hwE : (wr.alloc (.cells #[] 5)).drew = wE at *
              clear hwE
              refine tree_alt (fun K hK => ?_) ?_
              · go_wp2_with (refine wpl_append (t := 76) wr.heap.size 5 .u8 1 Try.underlying76 infoU8 (.slice (some ⟨wr.heap.size, 0, none⟩) 0 0) [] rfl hoE B _ dd doc rfl rfl (hrdD.up hE) (by simp; omega) (by decide) hE.size ?_; intro v2 w2 hv2 hu2 _)
                rw [List.nil_append] at hv2
                have hU2 : Up wr w2 := hE.thenx hu2 fun i hi e => by have e' : wr.heap.size = i := Option.some.inj e; omega
                refine ⟨hu.trans hU2, ?_⟩
                refine tree_do (fun K hK => ?_)
                go_wp2_with fail
                have hA : Up w2 (w2.alloc (.cells #[.int .u8 (x - 2)] 5)) := (Up.refl _).alloc _
                refine ⟨(hu.trans hU2).trans hA, ?_⟩
                refine tree_do (fun K hK => ?_)
                go_wp2_with (refine wpl_append (t := 76) wr.heap.size 5 .u8 1 Try.underlying76 infoU8 v2 doc rfl (hv2.up hA) (some ⟨w2.heap.size, 0, none⟩) _ 1 [x - 2] rfl rfl (rd_one w2 .u8 5 (x - 2) hi) (by simp; omega) (by decide) (hU2.trans hA).size ?_; intro v3 w3 hv3 hu3 _)
                have hlv := hv2.lt
                have hU3 : Up wr w3 := (hU2.trans hA).thenx hu3 fun i hi e => by have := (hlv i e).1; omega
                refine ⟨hu.trans hU3, ?_⟩
                dsimp only [Act.put]
                simp only [List.setIfInBounds_toArray, List.set_cons_zero, List.set_cons_succ]
                repeat (refine tree_step rfl (fun K hK => ?_); go_big_quiet_step ((intro _; rfl)); refine wpQuiet_nil (hK _ ?_); clear hK K)
                refine tree_nil ?_
                go_wp2_with fail
                go_roundw
                case rel =>
                  exact ⟨k + 1, by omega, by simp, ⟨acc, doc ++ [x - 2], m, wr.heap.size, by rw [HTT.out]; exact HD2.out, ho.up hU3, hv3, by simp, Nat.le_trans hm hU3.size, hwm, hu.size, by omega, by rw [List.length_append, List.length_singleton]; omega, hu.trans hU3⟩⟩
                case measure => simp [intOf]; omega
              ·
                refine tree_do (fun K hK => ?_)
                go_wp2_with fail
                have hA : Up wE (wE.alloc (.cells #[.int .u8 (x - 2)] 5)) := (Up.refl _).alloc _
                have hrO := rd_one wE .u8 5 (x - 2) hi
                have hoA := hoE.up hA
                have hEA := hE.trans hA
                have hfr : ∀ b, (Value.slice (some ⟨wr.heap.size, 0, none⟩) 0 0).ownBlock = some b → b < wE.heap.size := fun b hb => (hoE.lt b hb).2
                refine ⟨hu.trans hEA, ?_⟩
                refine tree_do (fun K hK => ?_)
                go_wp2_with (refine wpl_append (t := 76) wr.heap.size 5 .u8 1 Try.underlying76 infoU8 (.slice (some ⟨wr.heap.size, 0, none⟩) 0 0) [] rfl hoA B _ dd doc rfl rfl (hrdD.up hEA) (by simp; omega) (by decide) hEA.size ?_; intro v2 w2 hv2 hu2 _)
                rw [List.nil_append] at hv2
                have hU2 : Up wr w2 := hEA.thenx hu2 fun i hi e => by have e' : wr.heap.size = i := Option.some.inj e; omega
                have hrO2 := hrO.upx hu2 fun ad h0 hp e => by obtain rfl := Option.some.inj h0; have := hfr _ e; simp at this
                refine ⟨hu.trans hU2, ?_⟩
                refine tree_do (fun K hK => ?_)
                go_wp2_with (refine wpl_append (t := 76) wr.heap.size 5 .u8 1 Try.underlying76 infoU8 v2 doc rfl hv2 (some ⟨wE.heap.size, 0, none⟩) _ 1 [x - 2] rfl rfl hrO2 (by simp; omega) (by decide) hU2.size ?_; intro v3 w3 hv3 hu3 _)
                have hlv := hv2.lt
                have hU3 : Up wr w3 := hU2.thenx hu3 fun i hi e => by have := (hlv i e).1; omega
                refine ⟨hu.trans hU3, ?_⟩
                dsimp only [Act.put]
                simp only [List.setIfInBounds_toArray, List.set_cons_zero, List.set_cons_succ]
                repeat (refine tree_step rfl (fun K hK => ?_); go_big_quiet_step ((intro _; rfl)); refine wpQuiet_nil (hK _ ?_); clear hK K)
                refine tree_nil ?_
                go_wp2_with fail
                go_roundw
                case rel =>
                  exact ⟨k + 1, by omega, by simp, ⟨acc, doc ++ [x - 2], m, wr.heap.size, by rw [HTT.out]; exact HD2.out, ho.up hU3, hv3, by simp, Nat.le_trans hm hU3.size, hwm, by have := hu.size; have := hA.size; simp at this; omega, by omega, by rw [List.length_append, List.length_singleton]; omega, hu.trans hU3⟩⟩
                case measure => simp [intOf]; omega
            ·
              refine tree_do (fun K hK => ?_)
              go_wp2_with fail
              have hA : Up wr (wr.alloc (.cells #[.int .u8 (x - 2)] 5)).drew := ((Up.refl _).alloc _).drew
              have hrO := (rd_one wr .u8 5 (x - 2) hi).up ((Up.refl _).drew)
              have hsz : wr.heap.size < (wr.alloc (.cells #[.int .u8 (x - 2)] 5)).drew.heap.size := by simp
              generalize hwA : (wr.alloc (.cells #[.int .u8 (x - 2)] 5)).drew = wA at *
              clear hwA
              refine ⟨hu.trans hA, ?_⟩
              refine tree_do (fun K hK => ?_)
              go_wp2_with fail
              have hE : Up wA (wA.alloc (.cells #[] 5)) := (Up.refl _).alloc _
              have hoE := own_empty wA 5 .u8
              have hAE := hA.trans hE
              refine ⟨hu.trans hAE, ?_⟩
              refine tree_do (fun K hK => ?_)
              go_wp2_with (refine wpl_append (t := 76) wA.heap.size 5 .u8 1 Try.underlying76 infoU8 (.slice (some ⟨wA.heap.size, 0, none⟩) 0 0) [] rfl hoE B _ dd doc rfl rfl (hrdD.up hAE) (by simp; omega) (by decide) hE.size ?_; intro v2 w2 hv2 hu2 _)
              rw [List.nil_append] at hv2
              have hU2 : Up wA w2 := hE.thenx hu2 fun i hi e => by have e' : wA.heap.size = i := Option.some.inj e; omega
              have hrO2 := hrO.up hU2
              have hU2' := hA.trans hU2
              refine ⟨hu.trans hU2', ?_⟩
              refine tree_do (fun K hK => ?_)
              go_wp2_with (refine wpl_append (t := 76) wA.heap.size 5 .u8 1 Try.underlying76 infoU8 v2 doc rfl hv2 (some ⟨wr.heap.size, 0, none⟩) _ 1 [x - 2] rfl rfl hrO2 (by simp; omega) (by decide) hU2.size ?_; intro v3 w3 hv3 hu3 _)
              have hlv := hv2.lt
              have hU3 : Up wr w3 := hA.trans (hU2.thenx hu3 fun i hi e => by have := (hlv i e).1; omega)
              refine ⟨hu.trans hU3, ?_⟩
              dsimp only [Act.put]
              simp only [List.setIfInBounds_toArray, List.set_cons_zero, List.set_cons_succ]
              repeat (refine tree_step rfl (fun K hK => ?_); go_big_quiet_step ((intro _; rfl)); refine wpQuiet_nil (hK _ ?_); clear hK K)
              refine tree_nil ?_
              go_wp2_with fail
              go_roundw
              case rel =>
                exact ⟨k + 1, by omega, by simp, ⟨acc, doc ++ [x - 2], m, wA.heap.size, by rw [HTT.out]; exact HD2.out, ho.up hU3, hv3, by simp, Nat.le_trans hm hU3.size, hwm, by have := hu.size; omega, by omega, by rw [List.length_append, List.length_singleton]; omega, hu.trans hU3⟩⟩
              case measure => simp [intOf]; omega
          · have HD2 := Lib.hid (HD1.out.trans (if_neg hx2))
            clear HD1
            by_cases hx3 : x < 2
            · clear hx2
              go_wp2_with fail
              go_ret2
              exact ⟨hu, .inl ⟨HD2.out, _, rfl⟩⟩
            · have hx4 : ¬ x ≤ 257 := by omega
              have hx5 : 2 ≤ x := by omega
              clear hx2
              go_wp2_with fail
              go_ret2
              exact ⟨hu, .inl ⟨HD2.out, _, rfl⟩⟩
    · have hke : k = text.length := by omega
      subst hke
      rw [List.drop_length] at HDS
      go_wp2_with fail
      go_ret2
      exact ⟨hu, .inl ⟨HDS.out, _, rfl⟩⟩
end Go.Proofs.Ytneliajeokajbaa
