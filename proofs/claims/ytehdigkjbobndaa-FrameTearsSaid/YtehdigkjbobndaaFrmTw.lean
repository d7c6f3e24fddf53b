/- Layer 4: the law FrameTears. -/
import Derived.Test.YtehdigkjbobndaaFrmT
import Derived.Test.YtehdigkjbobndaaFrmDec
import Derived.Test.YtehdigkjbobndaaFrmKnown
import Derived.Test.YtehdigkjbobndaaTreeR
import Derived.Test.YtehdigkjbobndaaPlM
namespace Go.Proofs.Ytehdigkjbobndaa
open Go.RowKit
set_option maxRecDepth 100000

theorem u64_mod257 (x : Int) : ∃ i : Nat, i < 257 ∧ (IntKind.u64.wrap x).tmod 257 = (i : Int) := by
  have h : 0 ≤ IntKind.u64.wrap x := by rw [IntKind.wrap_u64]; omega
  rw [Int.tmod_eq_emod_of_nonneg h]
  exact ⟨((IntKind.u64.wrap x) % 257).toNat, by omega, by omega⟩
theorem own_ne {w : World} {base : Nat} {v : Value} {xs : List Int} {g : Nat} {cs : Array Value} (h : Own w base 5 .u8 v xs) (hb : Blk w g 67 cs) : ∀ b, v.ownBlock = some b → ¬ b = g := by
  intro b e e'
  subst e'
  have := (h.typed b e).ne ⟨⟨_, _, hb.out⟩⟩
  revert this
  decide
theorem own_ne' {w : World} {base : Nat} {B : Option Addr} {n d : Nat} {xs : List Int} {g : Nat} {cs : Array Value} (h : Own w base 5 .u8 (.slice B n d) xs) (hb : Blk w g 67 cs) : ∀ ad, B = some ad → ad.block ≠ g := by
  intro ad e
  subst e
  rcases h.row.2 with ⟨h0, _⟩ | ⟨_, _, _, h0, _⟩
  · cases h0
  · injection h0 with h0 _ _
    injection h0 with h0
    subst h0
    exact own_ne h hb _ rfl
/-- Two frames just made. -/
structure TP (w1 : World) (k1 e1 p1 : Int) (l1 : List Int) (k2 e2 p2 : Int) (l2 : List Int) (x y : Value) (wx : World) : Prop where mk ::
  out : ∃ gx gy B1 d1 B2 d2, x = .pointer (some ⟨gx, 0, none⟩) ∧ y = .pointer (some ⟨gy, 0, none⟩) ∧ gx ≠ gy ∧ w1.heap.size ≤ gx ∧ w1.heap.size ≤ gy ∧
    Blk wx gx 67 #[.int .i64 k1, .int .i64 e1, .int .i64 p1, .slice B1 l1.length d1] ∧ Blk wx gy 67 #[.int .i64 k2, .int .i64 e2, .int .i64 p2, .slice B2 l2.length d2] ∧
    Rd wx .u8 B1 d1 l1 ∧ Rd wx .u8 B2 d2 l2 ∧ (∀ ad, B1 = some ad → ad.block ≠ gy) ∧ (∀ ad, B2 = some ad → ad.block ≠ gy) ∧ Up w1 wx
theorem tears_fin {w1 wc : World} {gx gy : Nat} {k1 e1 p1 k2 e2 p2 : Int} {l1 l2 : List Int} {B1 B2 : Option Addr} {d1 d2 : Nat} {a0 a1 a2 a3 b0 b1 b2 b3 : Value}
    (HW : Up w1 wc) (hGx : w1.heap.size ≤ gx) (hGy : w1.heap.size ≤ gy) (hne : gx ≠ gy) (hx : Blk wc gx 67 #[a0, a1, a2, a3]) (hy : Blk wc gy 67 #[b0, b1, b2, b3])
    (hva : Own wc w1.heap.size 5 .u8 (.slice B1 l1.length d1) l1) (hvb : Own wc w1.heap.size 5 .u8 (.slice B2 l2.length d2) l2) :
    TP w1 k1 e1 p1 l1 k2 e2 p2 l2 (.pointer (some ⟨gx, 0, none⟩)) (.pointer (some ⟨gy, 0, none⟩))
      ((((((((wc.setCell ⟨gx, 0, none⟩ (.int .i64 k1)).setCell ⟨gx, 1, none⟩ (.int .i64 e1)).setCell ⟨gx, 2, none⟩ (.int .i64 p1)).setCell ⟨gx, 3, none⟩ (.slice B1 l1.length d1)).setCell ⟨gy, 0, none⟩ (.int .i64 k2)).setCell ⟨gy, 1, none⟩ (.int .i64 e2)).setCell ⟨gy, 2, none⟩ (.int .i64 p2)).setCell ⟨gy, 3, none⟩ (.slice B2 l2.length d2)) := by
  have ha := own_ne' hva hx
  have hb := own_ne' hvb hx
  have ha' := own_ne' hva hy
  have hb' := own_ne' hvb hy
  obtain ⟨_, _, e1', r1⟩ := hva.rd
  obtain ⟨_, _, e2', r2⟩ := hvb.rd
  injection e1' with h1 _ h2
  injection e2' with h3 _ h4
  subst h1 h2 h3 h4
  refine ⟨gx, gy, B1, d1, B2, d2, rfl, rfl, hne, hGx, hGy, (blk_store4 hx _ _ _ _).upx (UpX.four _ gy _ _ _ _) hne, blk_store4 (hy.upx (UpX.four _ gx _ _ _ _) fun e => hne e.symm) _ _ _ _, ?_, ?_, ha', hb', up_store4 (up_store4 HW hGx _ _ _ _) hGy _ _ _ _⟩
  · exact (r1.upx (UpX.four _ gx _ _ _ _) fun ad e _ => ha ad e).upx (UpX.four _ gy _ _ _ _) fun ad e _ => ha' ad e
  · exact (r2.upx (UpX.four _ gx _ _ _ _) fun ad e _ => hb ad e).upx (UpX.four _ gy _ _ _ _) fun ad e _ => hb' ad e
/-- The frame told. -/
structure TZ (w5 : World) (a1 a2 a3 : Int) (a4 : List Int) (a5 : Int) (x y : Value) (wx : World) : Prop where mk ::
  out : ∃ gz B d, x = .pointer (some ⟨gz, 0, none⟩) ∧ y = .int .i64 a5 ∧ Blk wx gz 67 #[.int .i64 a1, .int .i64 a2, .int .i64 a3, .slice B a4.length d] ∧ Rd wx .u8 B d a4 ∧ Up w5 wx
theorem tearz_fin {w5 wc : World} {gz : Nat} {a1 a2 a3 a5 : Int} {a4 : List Int} {B : Option Addr} {d : Nat} {b0 b1 b2 b3 : Value}
    (HW : Up w5 wc) (hGz : w5.heap.size ≤ gz) (hx : Blk wc gz 67 #[b0, b1, b2, b3]) (hv : Own wc w5.heap.size 5 .u8 (.slice B a4.length d) a4) :
    TZ w5 a1 a2 a3 a4 a5 (.pointer (some ⟨gz, 0, none⟩)) (.int .i64 a5) ((((wc.setCell ⟨gz, 0, none⟩ (.int .i64 a1)).setCell ⟨gz, 1, none⟩ (.int .i64 a2)).setCell ⟨gz, 2, none⟩ (.int .i64 a3)).setCell ⟨gz, 3, none⟩ (.slice B a4.length d)) := by
  have ha := own_ne' hv hx
  obtain ⟨_, _, e1', r1⟩ := hv.rd
  injection e1' with h1 _ h2
  subst h1 h2
  exact ⟨gz, B, d, rfl, rfl, blk_store4 hx _ _ _ _, r1.upx (UpX.four _ gz _ _ _ _) fun ad e _ => ha ad e, up_store4 HW hGz _ _ _ _⟩
set_option maxHeartbeats 4000000 in
theorem lawFrameTears_calls (k1 e1 p1 : Int) (A1 : Option Addr) (c1 : Nat) (b1 : List Int) (k2 e2 p2 : Int) (A2 : Option Addr) (c2 : Nat) (b2 : List Int) (part : Int) (w : World) (h1 : Rd w .u8 A1 c1 b1) (h2 : Rd w .u8 A2 c2 b2) :
    Calls Try.prog 8 #[.agg #[.int .i64 k1, .int .i64 e1, .int .i64 p1, .slice A1 b1.length c1], .agg #[.int .i64 k2, .int .i64 e2, .int .i64 p2, .slice A2 b2.length c2], .int .i64 part] w fun en w' => en = .returned (.bool true) ∧ Up w w' := by
  obtain ⟨i, hi, hm257⟩ := u64_mod257 part
  have hu0 : Up w ((w.alloc (.cells #[.int .i64 k1, .int .i64 e1, .int .i64 p1, .slice A1 b1.length c1] 66)).alloc (.cells #[.int .i64 k2, .int .i64 e2, .int .i64 p2, .slice A2 b2.length c2] 66)) := ((Up.refl w).alloc _).alloc _
  have hf := (Blk.new w 66 #[.int .i64 k1, .int .i64 e1, .int .i64 p1, .slice A1 b1.length c1]).alloc (.cells #[.int .i64 k2, .int .i64 e2, .int .i64 p2, .slice A2 b2.length c2] 66)
  have hg : Blk ((w.alloc (.cells #[.int .i64 k1, .int .i64 e1, .int .i64 p1, .slice A1 b1.length c1] 66)).alloc (.cells #[.int .i64 k2, .int .i64 e2, .int .i64 p2, .slice A2 b2.length c2] 66)) (w.heap.size + 1) 66 #[.int .i64 k2, .int .i64 e2, .int .i64 p2, .slice A2 b2.length c2] := by
    have := Blk.new (w.alloc (.cells #[.int .i64 k1, .int .i64 e1, .int .i64 p1, .slice A1 b1.length c1] 66)) 66 #[.int .i64 k2, .int .i64 e2, .int .i64 p2, .slice A2 b2.length c2]
    simpa using this
  have HR1 := Lib.hid (h1.up hu0)
  have HR2 := Lib.hid (h2.up hu0)
  have HM := Lib.hid hm257
  clear hm257
  go_enter Try.func8, Try.ntmps8
  go_upto_region 1 with fail
  generalize ((w.alloc (.cells #[.int .i64 k1, .int .i64 e1, .int .i64 p1, .slice A1 b1.length c1] 66)).alloc (.cells #[.int .i64 k2, .int .i64 e2, .int .i64 p2, .slice A2 b2.length c2] 66)) = w1 at *
  have HTO1 := Lib.hid (fun wc (h : Up w1 wc) => to4_calls k1 e1 p1 A1 c1 b1 wc (HR1.out.up h))
  have HTO2 := Lib.hid (fun wc (h : Up w1 wc) => to4_calls k2 e2 p2 A2 c2 b2 wc (HR2.out.up h))
  have HU1 := Lib.hid hu0
  clear HR1 HR2 hu0 h1 h2
  generalize b1.take 250 = l1 at HTO1
  generalize b2.take 250 = l2 at HTO2
  go_cut [7, 8] (fun x y wx => TP w1 k1 e1 p1 l1 k2 e2 p2 l2 x y wx)
  case first =>
    refine wp_region_tree (fun w' => Up w1 w') (.quiet 0 (.quiet 2 (.alt 1 (.alt 3 (.alt 4 (.alt 5 (.alt 6 (.alt 7 (.nil) (.stop)) (.stop)) (.stop)) (.alt 5 (.alt 4 (.alt 6 (.alt 7 (.nil) (.stop)) (.stop)) (.stop)) (.stop))) (.alt 4 (.alt 3 (.alt 5 (.alt 6 (.alt 7 (.nil) (.stop)) (.stop)) (.stop)) (.alt 5 (.alt 3 (.alt 6 (.alt 7 (.nil) (.stop)) (.stop)) (.stop)) (.stop))) (.alt 5 (.alt 3 (.alt 4 (.alt 6 (.alt 7 (.nil) (.stop)) (.stop)) (.stop)) (.alt 4 (.alt 3 (.alt 6 (.alt 7 (.nil) (.stop)) (.stop)) (.stop)) (.stop))) (.stop)))) (.alt 4 (.alt 1 (.alt 3 (.alt 5 (.alt 6 (.alt 7 (.nil) (.stop)) (.stop)) (.stop)) (.alt 5 (.alt 3 (.alt 6 (.alt 7 (.nil) (.stop)) (.stop)) (.stop)) (.stop))) (.alt 5 (.alt 1 (.alt 3 (.alt 6 (.alt 7 (.nil) (.stop)) (.stop)) (.stop)) (.stop)) (.stop))) (.alt 5 (.alt 1 (.alt 3 (.alt 4 (.alt 6 (.alt 7 (.nil) (.stop)) (.stop)) (.stop)) (.alt 4 (.alt 3 (.alt 6 (.alt 7 (.nil) (.stop)) (.stop)) (.stop)) (.stop))) (.alt 4 (.alt 1 (.alt 3 (.alt 6 (.alt 7 (.nil) (.stop)) (.stop)) (.stop)) (.stop)) (.stop))) (.stop)))))) (by kernel_rfl) (by kernel_rfl) rfl (by kernel_rfl) (by kernel_rfl) ((Up.refl w1).drew) ?_
    simp only [pickT, List.getElem?_cons_succ, List.getElem?_cons_zero, Option.getD_some]
    refine tree_loadrow w.heap.size 66 #[.int .i64 k1, .int .i64 e1, .int .i64 p1, .slice A1 b1.length c1] _ (by kernel_rfl) rfl Try.underlying66 rfl (by kernel_rfl) (fun w' h => hf.up h) ?_
    dsimp only [Act.put]
    simp only [List.setIfInBounds_toArray, List.set_cons_zero, List.set_cons_succ]
    refine tree_loadrow (w.heap.size + 1) 66 #[.int .i64 k2, .int .i64 e2, .int .i64 p2, .slice A2 b2.length c2] _ (by kernel_rfl) rfl Try.underlying66 rfl (by kernel_rfl) (fun w' h => hg.up h) ?_
    dsimp only [Act.put]
    simp only [List.setIfInBounds_toArray, List.set_cons_zero, List.set_cons_succ]
    have HW := (Up.refl w1).drew
    generalize w1.drew = wc at *
    refine tree_alt (fun K hK => ?_) ?_
    · skip
      go_wp2_with fail
      refine (HTO1.out wc HW).mono ?_
      rintro en wc ⟨va, rfl, hva, hS⟩
      replace hva := hva.mono (show w1.heap.size ≤ _ from HW.size)
      obtain ⟨B1, d1, rfl, _⟩ := hva.rd
      go_wp2_with fail
      refine ⟨HW.trans hS, ?_⟩
      (try replace hva := hva.up hS)
      (try replace hvb := hvb.up hS)
      (try replace hx := hx.up hS)
      (try replace hy := hy.up hS)
      replace HW := HW.trans hS
      clear hS
      refine tree_alt (fun K hK => ?_) ?_
      · skip
        go_wp2_with fail
        refine (HTO2.out wc HW).mono ?_
        rintro en wc ⟨vb, rfl, hvb, hS⟩
        replace hvb := hvb.mono (show w1.heap.size ≤ _ from HW.size)
        obtain ⟨B2, d2, rfl, _⟩ := hvb.rd
        go_wp2_with fail
        refine ⟨HW.trans hS, ?_⟩
        (try replace hva := hva.up hS)
        (try replace hvb := hvb.up hS)
        (try replace hx := hx.up hS)
        (try replace hy := hy.up hS)
        replace HW := HW.trans hS
        clear hS
        refine tree_alt (fun K hK => ?_) ?_
        · skip
          go_wp2_with fail
          have hS := (Up.refl wc).alloc (.cells #[.int .i64 0, .int .i64 0, .int .i64 0, .slice none 0 0] 67)
          have hx := Blk.new wc 67 #[.int .i64 0, .int .i64 0, .int .i64 0, .slice none 0 0]
          have hGx : w1.heap.size ≤ wc.heap.size := HW.size
          (try have hne : wc.heap.size ≠ gy := by have := hy.lt; omega)
          refine ⟨HW.trans hS, ?_⟩
          (try replace hva := hva.up hS)
          (try replace hvb := hvb.up hS)
          (try replace hx := hx.up hS)
          (try replace hy := hy.up hS)
          replace HW := HW.trans hS
          clear hS
          generalize (wc.alloc (.cells #[.int .i64 0, .int .i64 0, .int .i64 0, .slice none 0 0] 67)) = wn at *
          generalize wc.heap.size = gx at *
          generalize wn = wc at *
          refine tree_do (fun K hK => ?_)
          go_wp2_with fail
          have hS := (Up.refl wc).alloc (.cells #[.int .i64 0, .int .i64 0, .int .i64 0, .slice none 0 0] 67)
          have hy := Blk.new wc 67 #[.int .i64 0, .int .i64 0, .int .i64 0, .slice none 0 0]
          have hGy : w1.heap.size ≤ wc.heap.size := HW.size
          (try have hne : gx ≠ wc.heap.size := by have := hx.lt; omega)
          refine ⟨HW.trans hS, ?_⟩
          (try replace hva := hva.up hS)
          (try replace hvb := hvb.up hS)
          (try replace hx := hx.up hS)
          (try replace hy := hy.up hS)
          replace HW := HW.trans hS
          clear hS
          generalize (wc.alloc (.cells #[.int .i64 0, .int .i64 0, .int .i64 0, .slice none 0 0] 67)) = wn at *
          generalize wc.heap.size = gy at *
          generalize wn = wc at *
          refine tree_do (fun K hK => ?_)
          have hz := hx
          have z0 := hz.cell 0
          have z1 := hz.cell 1
          have z2 := hz.cell 2
          have z3 := hz.cell 3
          simp only [List.getElem?_toArray, List.getElem?_cons_succ, List.getElem?_cons_zero] at z0 z1 z2 z3
          have y0 := hz.frozen 0
          have y1 := hz.frozen 1
          have y2 := hz.frozen 2
          have y3 := hz.frozen 3
          go_wp2_with fail
          refine ⟨up_store4 HW hGx _ _ _ _, ?_⟩
          clear hz z0 z1 z2 z3 y0 y1 y2 y3
          refine tree_do (fun K hK => ?_)
          have hz := hy.upx (UpX.four wc gx (.int .i64 k1) (.int .i64 e1) (.int .i64 p1) (.slice B1 l1.length d1)) (fun e => hne e.symm)
          have z0 := hz.cell 0
          have z1 := hz.cell 1
          have z2 := hz.cell 2
          have z3 := hz.cell 3
          simp only [List.getElem?_toArray, List.getElem?_cons_succ, List.getElem?_cons_zero] at z0 z1 z2 z3
          have y0 := hz.frozen 0
          have y1 := hz.frozen 1
          have y2 := hz.frozen 2
          have y3 := hz.frozen 3
          go_wp2_with fail
          (try refine ⟨trivial, ?_⟩)
          (try refine tree_nil ?_)
          go_wp2_with fail
          go_meet
          exact tears_fin HW hGx hGy hne hx hy hva hvb
        refine tree_do (fun K hK => ?_)
        go_wp2_with fail
        have hS := (Up.refl wc).alloc (.cells #[.int .i64 0, .int .i64 0, .int .i64 0, .slice none 0 0] 67)
        have hy := Blk.new wc 67 #[.int .i64 0, .int .i64 0, .int .i64 0, .slice none 0 0]
        have hGy : w1.heap.size ≤ wc.heap.size := HW.size
        (try have hne : gx ≠ wc.heap.size := by have := hx.lt; omega)
        refine ⟨HW.trans hS, ?_⟩
        (try replace hva := hva.up hS)
        (try replace hvb := hvb.up hS)
        (try replace hx := hx.up hS)
        (try replace hy := hy.up hS)
        replace HW := HW.trans hS
        clear hS
        generalize (wc.alloc (.cells #[.int .i64 0, .int .i64 0, .int .i64 0, .slice none 0 0] 67)) = wn at *
        generalize wc.heap.size = gy at *
        generalize wn = wc at *
        refine tree_do (fun K hK => ?_)
        go_wp2_with fail
        have hS := (Up.refl wc).alloc (.cells #[.int .i64 0, .int .i64 0, .int .i64 0, .slice none 0 0] 67)
        have hx := Blk.new wc 67 #[.int .i64 0, .int .i64 0, .int .i64 0, .slice none 0 0]
        have hGx : w1.heap.size ≤ wc.heap.size := HW.size
        (try have hne : wc.heap.size ≠ gy := by have := hy.lt; omega)
        refine ⟨HW.trans hS, ?_⟩
        (try replace hva := hva.up hS)
        (try replace hvb := hvb.up hS)
        (try replace hx := hx.up hS)
        (try replace hy := hy.up hS)
        replace HW := HW.trans hS
        clear hS
        generalize (wc.alloc (.cells #[.int .i64 0, .int .i64 0, .int .i64 0, .slice none 0 0] 67)) = wn at *
        generalize wc.heap.size = gx at *
        generalize wn = wc at *
        refine tree_do (fun K hK => ?_)
        have hz := hx
        have z0 := hz.cell 0
        have z1 := hz.cell 1
        have z2 := hz.cell 2
        have z3 := hz.cell 3
        simp only [List.getElem?_toArray, List.getElem?_cons_succ, List.getElem?_cons_zero] at z0 z1 z2 z3
        have y0 := hz.frozen 0
        have y1 := hz.frozen 1
        have y2 := hz.frozen 2
        have y3 := hz.frozen 3
        go_wp2_with fail
        refine ⟨up_store4 HW hGx _ _ _ _, ?_⟩
        clear hz z0 z1 z2 z3 y0 y1 y2 y3
        refine tree_do (fun K hK => ?_)
        have hz := hy.upx (UpX.four wc gx (.int .i64 k1) (.int .i64 e1) (.int .i64 p1) (.slice B1 l1.length d1)) (fun e => hne e.symm)
        have z0 := hz.cell 0
        have z1 := hz.cell 1
        have z2 := hz.cell 2
        have z3 := hz.cell 3
        simp only [List.getElem?_toArray, List.getElem?_cons_succ, List.getElem?_cons_zero] at z0 z1 z2 z3
        have y0 := hz.frozen 0
        have y1 := hz.frozen 1
        have y2 := hz.frozen 2
        have y3 := hz.frozen 3
        go_wp2_with fail
        (try refine ⟨trivial, ?_⟩)
        (try refine tree_nil ?_)
        go_wp2_with fail
        go_meet
        exact tears_fin HW hGx hGy hne hx hy hva hvb
      refine tree_alt (fun K hK => ?_) ?_
      · skip
        go_wp2_with fail
        have hS := (Up.refl wc).alloc (.cells #[.int .i64 0, .int .i64 0, .int .i64 0, .slice none 0 0] 67)
        have hx := Blk.new wc 67 #[.int .i64 0, .int .i64 0, .int .i64 0, .slice none 0 0]
        have hGx : w1.heap.size ≤ wc.heap.size := HW.size
        (try have hne : wc.heap.size ≠ gy := by have := hy.lt; omega)
        refine ⟨HW.trans hS, ?_⟩
        (try replace hva := hva.up hS)
        (try replace hvb := hvb.up hS)
        (try replace hx := hx.up hS)
        (try replace hy := hy.up hS)
        replace HW := HW.trans hS
        clear hS
        generalize (wc.alloc (.cells #[.int .i64 0, .int .i64 0, .int .i64 0, .slice none 0 0] 67)) = wn at *
        generalize wc.heap.size = gx at *
        generalize wn = wc at *
        refine tree_alt (fun K hK => ?_) ?_
        · skip
          go_wp2_with fail
          refine (HTO2.out wc HW).mono ?_
          rintro en wc ⟨vb, rfl, hvb, hS⟩
          replace hvb := hvb.mono (show w1.heap.size ≤ _ from HW.size)
          obtain ⟨B2, d2, rfl, _⟩ := hvb.rd
          go_wp2_with fail
          refine ⟨HW.trans hS, ?_⟩
          (try replace hva := hva.up hS)
          (try replace hvb := hvb.up hS)
          (try replace hx := hx.up hS)
          (try replace hy := hy.up hS)
          replace HW := HW.trans hS
          clear hS
          refine tree_do (fun K hK => ?_)
          go_wp2_with fail
          have hS := (Up.refl wc).alloc (.cells #[.int .i64 0, .int .i64 0, .int .i64 0, .slice none 0 0] 67)
          have hy := Blk.new wc 67 #[.int .i64 0, .int .i64 0, .int .i64 0, .slice none 0 0]
          have hGy : w1.heap.size ≤ wc.heap.size := HW.size
          (try have hne : gx ≠ wc.heap.size := by have := hx.lt; omega)
          refine ⟨HW.trans hS, ?_⟩
          (try replace hva := hva.up hS)
          (try replace hvb := hvb.up hS)
          (try replace hx := hx.up hS)
          (try replace hy := hy.up hS)
          replace HW := HW.trans hS
          clear hS
          generalize (wc.alloc (.cells #[.int .i64 0, .int .i64 0, .int .i64 0, .slice none 0 0] 67)) = wn at *
          generalize wc.heap.size = gy at *
          generalize wn = wc at *
          refine tree_do (fun K hK => ?_)
          have hz := hx
          have z0 := hz.cell 0
          have z1 := hz.cell 1
          have z2 := hz.cell 2
          have z3 := hz.cell 3
          simp only [List.getElem?_toArray, List.getElem?_cons_succ, List.getElem?_cons_zero] at z0 z1 z2 z3
          have y0 := hz.frozen 0
          have y1 := hz.frozen 1
          have y2 := hz.frozen 2
          have y3 := hz.frozen 3
          go_wp2_with fail
          refine ⟨up_store4 HW hGx _ _ _ _, ?_⟩
          clear hz z0 z1 z2 z3 y0 y1 y2 y3
          refine tree_do (fun K hK => ?_)
          have hz := hy.upx (UpX.four wc gx (.int .i64 k1) (.int .i64 e1) (.int .i64 p1) (.slice B1 l1.length d1)) (fun e => hne e.symm)
          have z0 := hz.cell 0
          have z1 := hz.cell 1
          have z2 := hz.cell 2
          have z3 := hz.cell 3
          simp only [List.getElem?_toArray, List.getElem?_cons_succ, List.getElem?_cons_zero] at z0 z1 z2 z3
          have y0 := hz.frozen 0
          have y1 := hz.frozen 1
          have y2 := hz.frozen 2
          have y3 := hz.frozen 3
          go_wp2_with fail
          (try refine ⟨trivial, ?_⟩)
          (try refine tree_nil ?_)
          go_wp2_with fail
          go_meet
          exact tears_fin HW hGx hGy hne hx hy hva hvb
        refine tree_do (fun K hK => ?_)
        go_wp2_with fail
        have hS := (Up.refl wc).alloc (.cells #[.int .i64 0, .int .i64 0, .int .i64 0, .slice none 0 0] 67)
        have hy := Blk.new wc 67 #[.int .i64 0, .int .i64 0, .int .i64 0, .slice none 0 0]
        have hGy : w1.heap.size ≤ wc.heap.size := HW.size
        (try have hne : gx ≠ wc.heap.size := by have := hx.lt; omega)
        refine ⟨HW.trans hS, ?_⟩
        (try replace hva := hva.up hS)
        (try replace hvb := hvb.up hS)
        (try replace hx := hx.up hS)
        (try replace hy := hy.up hS)
        replace HW := HW.trans hS
        clear hS
        generalize (wc.alloc (.cells #[.int .i64 0, .int .i64 0, .int .i64 0, .slice none 0 0] 67)) = wn at *
        generalize wc.heap.size = gy at *
        generalize wn = wc at *
        refine tree_do (fun K hK => ?_)
        go_wp2_with fail
        refine (HTO2.out wc HW).mono ?_
        rintro en wc ⟨vb, rfl, hvb, hS⟩
        replace hvb := hvb.mono (show w1.heap.size ≤ _ from HW.size)
        obtain ⟨B2, d2, rfl, _⟩ := hvb.rd
        go_wp2_with fail
        refine ⟨HW.trans hS, ?_⟩
        (try replace hva := hva.up hS)
        (try replace hvb := hvb.up hS)
        (try replace hx := hx.up hS)
        (try replace hy := hy.up hS)
        replace HW := HW.trans hS
        clear hS
        refine tree_do (fun K hK => ?_)
        have hz := hx
        have z0 := hz.cell 0
        have z1 := hz.cell 1
        have z2 := hz.cell 2
        have z3 := hz.cell 3
        simp only [List.getElem?_toArray, List.getElem?_cons_succ, List.getElem?_cons_zero] at z0 z1 z2 z3
        have y0 := hz.frozen 0
        have y1 := hz.frozen 1
        have y2 := hz.frozen 2
        have y3 := hz.frozen 3
        go_wp2_with fail
        refine ⟨up_store4 HW hGx _ _ _ _, ?_⟩
        clear hz z0 z1 z2 z3 y0 y1 y2 y3
        refine tree_do (fun K hK => ?_)
        have hz := hy.upx (UpX.four wc gx (.int .i64 k1) (.int .i64 e1) (.int .i64 p1) (.slice B1 l1.length d1)) (fun e => hne e.symm)
        have z0 := hz.cell 0
        have z1 := hz.cell 1
        have z2 := hz.cell 2
        have z3 := hz.cell 3
        simp only [List.getElem?_toArray, List.getElem?_cons_succ, List.getElem?_cons_zero] at z0 z1 z2 z3
        have y0 := hz.frozen 0
        have y1 := hz.frozen 1
        have y2 := hz.frozen 2
        have y3 := hz.frozen 3
        go_wp2_with fail
        (try refine ⟨trivial, ?_⟩)
        (try refine tree_nil ?_)
        go_wp2_with fail
        go_meet
        exact tears_fin HW hGx hGy hne hx hy hva hvb
      refine tree_do (fun K hK => ?_)
      go_wp2_with fail
      have hS := (Up.refl wc).alloc (.cells #[.int .i64 0, .int .i64 0, .int .i64 0, .slice none 0 0] 67)
      have hy := Blk.new wc 67 #[.int .i64 0, .int .i64 0, .int .i64 0, .slice none 0 0]
      have hGy : w1.heap.size ≤ wc.heap.size := HW.size
      (try have hne : gx ≠ wc.heap.size := by have := hx.lt; omega)
      refine ⟨HW.trans hS, ?_⟩
      (try replace hva := hva.up hS)
      (try replace hvb := hvb.up hS)
      (try replace hx := hx.up hS)
      (try replace hy := hy.up hS)
      replace HW := HW.trans hS
      clear hS
      generalize (wc.alloc (.cells #[.int .i64 0, .int .i64 0, .int .i64 0, .slice none 0 0] 67)) = wn at *
      generalize wc.heap.size = gy at *
      generalize wn = wc at *
      refine tree_alt (fun K hK => ?_) ?_
      · skip
        go_wp2_with fail
        refine (HTO2.out wc HW).mono ?_
        rintro en wc ⟨vb, rfl, hvb, hS⟩
        replace hvb := hvb.mono (show w1.heap.size ≤ _ from HW.size)
        obtain ⟨B2, d2, rfl, _⟩ := hvb.rd
        go_wp2_with fail
        refine ⟨HW.trans hS, ?_⟩
        (try replace hva := hva.up hS)
        (try replace hvb := hvb.up hS)
        (try replace hx := hx.up hS)
        (try replace hy := hy.up hS)
        replace HW := HW.trans hS
        clear hS
        refine tree_do (fun K hK => ?_)
        go_wp2_with fail
        have hS := (Up.refl wc).alloc (.cells #[.int .i64 0, .int .i64 0, .int .i64 0, .slice none 0 0] 67)
        have hx := Blk.new wc 67 #[.int .i64 0, .int .i64 0, .int .i64 0, .slice none 0 0]
        have hGx : w1.heap.size ≤ wc.heap.size := HW.size
        (try have hne : wc.heap.size ≠ gy := by have := hy.lt; omega)
        refine ⟨HW.trans hS, ?_⟩
        (try replace hva := hva.up hS)
        (try replace hvb := hvb.up hS)
        (try replace hx := hx.up hS)
        (try replace hy := hy.up hS)
        replace HW := HW.trans hS
        clear hS
        generalize (wc.alloc (.cells #[.int .i64 0, .int .i64 0, .int .i64 0, .slice none 0 0] 67)) = wn at *
        generalize wc.heap.size = gx at *
        generalize wn = wc at *
        refine tree_do (fun K hK => ?_)
        have hz := hx
        have z0 := hz.cell 0
        have z1 := hz.cell 1
        have z2 := hz.cell 2
        have z3 := hz.cell 3
        simp only [List.getElem?_toArray, List.getElem?_cons_succ, List.getElem?_cons_zero] at z0 z1 z2 z3
        have y0 := hz.frozen 0
        have y1 := hz.frozen 1
        have y2 := hz.frozen 2
        have y3 := hz.frozen 3
        go_wp2_with fail
        refine ⟨up_store4 HW hGx _ _ _ _, ?_⟩
        clear hz z0 z1 z2 z3 y0 y1 y2 y3
        refine tree_do (fun K hK => ?_)
        have hz := hy.upx (UpX.four wc gx (.int .i64 k1) (.int .i64 e1) (.int .i64 p1) (.slice B1 l1.length d1)) (fun e => hne e.symm)
        have z0 := hz.cell 0
        have z1 := hz.cell 1
        have z2 := hz.cell 2
        have z3 := hz.cell 3
        simp only [List.getElem?_toArray, List.getElem?_cons_succ, List.getElem?_cons_zero] at z0 z1 z2 z3
        have y0 := hz.frozen 0
        have y1 := hz.frozen 1
        have y2 := hz.frozen 2
        have y3 := hz.frozen 3
        go_wp2_with fail
        (try refine ⟨trivial, ?_⟩)
        (try refine tree_nil ?_)
        go_wp2_with fail
        go_meet
        exact tears_fin HW hGx hGy hne hx hy hva hvb
      refine tree_do (fun K hK => ?_)
      go_wp2_with fail
      have hS := (Up.refl wc).alloc (.cells #[.int .i64 0, .int .i64 0, .int .i64 0, .slice none 0 0] 67)
      have hx := Blk.new wc 67 #[.int .i64 0, .int .i64 0, .int .i64 0, .slice none 0 0]
      have hGx : w1.heap.size ≤ wc.heap.size := HW.size
      (try have hne : wc.heap.size ≠ gy := by have := hy.lt; omega)
      refine ⟨HW.trans hS, ?_⟩
      (try replace hva := hva.up hS)
      (try replace hvb := hvb.up hS)
      (try replace hx := hx.up hS)
      (try replace hy := hy.up hS)
      replace HW := HW.trans hS
      clear hS
      generalize (wc.alloc (.cells #[.int .i64 0, .int .i64 0, .int .i64 0, .slice none 0 0] 67)) = wn at *
      generalize wc.heap.size = gx at *
      generalize wn = wc at *
      refine tree_do (fun K hK => ?_)
      go_wp2_with fail
      refine (HTO2.out wc HW).mono ?_
      rintro en wc ⟨vb, rfl, hvb, hS⟩
      replace hvb := hvb.mono (show w1.heap.size ≤ _ from HW.size)
      obtain ⟨B2, d2, rfl, _⟩ := hvb.rd
      go_wp2_with fail
      refine ⟨HW.trans hS, ?_⟩
      (try replace hva := hva.up hS)
      (try replace hvb := hvb.up hS)
      (try replace hx := hx.up hS)
      (try replace hy := hy.up hS)
      replace HW := HW.trans hS
      clear hS
      refine tree_do (fun K hK => ?_)
      have hz := hx
      have z0 := hz.cell 0
      have z1 := hz.cell 1
      have z2 := hz.cell 2
      have z3 := hz.cell 3
      simp only [List.getElem?_toArray, List.getElem?_cons_succ, List.getElem?_cons_zero] at z0 z1 z2 z3
      have y0 := hz.frozen 0
      have y1 := hz.frozen 1
      have y2 := hz.frozen 2
      have y3 := hz.frozen 3
      go_wp2_with fail
      refine ⟨up_store4 HW hGx _ _ _ _, ?_⟩
      clear hz z0 z1 z2 z3 y0 y1 y2 y3
      refine tree_do (fun K hK => ?_)
      have hz := hy.upx (UpX.four wc gx (.int .i64 k1) (.int .i64 e1) (.int .i64 p1) (.slice B1 l1.length d1)) (fun e => hne e.symm)
      have z0 := hz.cell 0
      have z1 := hz.cell 1
      have z2 := hz.cell 2
      have z3 := hz.cell 3
      simp only [List.getElem?_toArray, List.getElem?_cons_succ, List.getElem?_cons_zero] at z0 z1 z2 z3
      have y0 := hz.frozen 0
      have y1 := hz.frozen 1
      have y2 := hz.frozen 2
      have y3 := hz.frozen 3
      go_wp2_with fail
      (try refine ⟨trivial, ?_⟩)
      (try refine tree_nil ?_)
      go_wp2_with fail
      go_meet
      exact tears_fin HW hGx hGy hne hx hy hva hvb
    refine tree_alt (fun K hK => ?_) ?_
    · skip
      go_wp2_with fail
      have hS := (Up.refl wc).alloc (.cells #[.int .i64 0, .int .i64 0, .int .i64 0, .slice none 0 0] 67)
      have hx := Blk.new wc 67 #[.int .i64 0, .int .i64 0, .int .i64 0, .slice none 0 0]
      have hGx : w1.heap.size ≤ wc.heap.size := HW.size
      (try have hne : wc.heap.size ≠ gy := by have := hy.lt; omega)
      refine ⟨HW.trans hS, ?_⟩
      (try replace hva := hva.up hS)
      (try replace hvb := hvb.up hS)
      (try replace hx := hx.up hS)
      (try replace hy := hy.up hS)
      replace HW := HW.trans hS
      clear hS
      generalize (wc.alloc (.cells #[.int .i64 0, .int .i64 0, .int .i64 0, .slice none 0 0] 67)) = wn at *
      generalize wc.heap.size = gx at *
      generalize wn = wc at *
      refine tree_alt (fun K hK => ?_) ?_
      · skip
        go_wp2_with fail
        refine (HTO1.out wc HW).mono ?_
        rintro en wc ⟨va, rfl, hva, hS⟩
        replace hva := hva.mono (show w1.heap.size ≤ _ from HW.size)
        obtain ⟨B1, d1, rfl, _⟩ := hva.rd
        go_wp2_with fail
        refine ⟨HW.trans hS, ?_⟩
        (try replace hva := hva.up hS)
        (try replace hvb := hvb.up hS)
        (try replace hx := hx.up hS)
        (try replace hy := hy.up hS)
        replace HW := HW.trans hS
        clear hS
        refine tree_alt (fun K hK => ?_) ?_
        · skip
          go_wp2_with fail
          refine (HTO2.out wc HW).mono ?_
          rintro en wc ⟨vb, rfl, hvb, hS⟩
          replace hvb := hvb.mono (show w1.heap.size ≤ _ from HW.size)
          obtain ⟨B2, d2, rfl, _⟩ := hvb.rd
          go_wp2_with fail
          refine ⟨HW.trans hS, ?_⟩
          (try replace hva := hva.up hS)
          (try replace hvb := hvb.up hS)
          (try replace hx := hx.up hS)
          (try replace hy := hy.up hS)
          replace HW := HW.trans hS
          clear hS
          refine tree_do (fun K hK => ?_)
          go_wp2_with fail
          have hS := (Up.refl wc).alloc (.cells #[.int .i64 0, .int .i64 0, .int .i64 0, .slice none 0 0] 67)
          have hy := Blk.new wc 67 #[.int .i64 0, .int .i64 0, .int .i64 0, .slice none 0 0]
          have hGy : w1.heap.size ≤ wc.heap.size := HW.size
          (try have hne : gx ≠ wc.heap.size := by have := hx.lt; omega)
          refine ⟨HW.trans hS, ?_⟩
          (try replace hva := hva.up hS)
          (try replace hvb := hvb.up hS)
          (try replace hx := hx.up hS)
          (try replace hy := hy.up hS)
          replace HW := HW.trans hS
          clear hS
          generalize (wc.alloc (.cells #[.int .i64 0, .int .i64 0, .int .i64 0, .slice none 0 0] 67)) = wn at *
          generalize wc.heap.size = gy at *
          generalize wn = wc at *
          refine tree_do (fun K hK => ?_)
          have hz := hx
          have z0 := hz.cell 0
          have z1 := hz.cell 1
          have z2 := hz.cell 2
          have z3 := hz.cell 3
          simp only [List.getElem?_toArray, List.getElem?_cons_succ, List.getElem?_cons_zero] at z0 z1 z2 z3
          have y0 := hz.frozen 0
          have y1 := hz.frozen 1
          have y2 := hz.frozen 2
          have y3 := hz.frozen 3
          go_wp2_with fail
          refine ⟨up_store4 HW hGx _ _ _ _, ?_⟩
          clear hz z0 z1 z2 z3 y0 y1 y2 y3
          refine tree_do (fun K hK => ?_)
          have hz := hy.upx (UpX.four wc gx (.int .i64 k1) (.int .i64 e1) (.int .i64 p1) (.slice B1 l1.length d1)) (fun e => hne e.symm)
          have z0 := hz.cell 0
          have z1 := hz.cell 1
          have z2 := hz.cell 2
          have z3 := hz.cell 3
          simp only [List.getElem?_toArray, List.getElem?_cons_succ, List.getElem?_cons_zero] at z0 z1 z2 z3
          have y0 := hz.frozen 0
          have y1 := hz.frozen 1
          have y2 := hz.frozen 2
          have y3 := hz.frozen 3
          go_wp2_with fail
          (try refine ⟨trivial, ?_⟩)
          (try refine tree_nil ?_)
          go_wp2_with fail
          go_meet
          exact tears_fin HW hGx hGy hne hx hy hva hvb
        refine tree_do (fun K hK => ?_)
        go_wp2_with fail
        have hS := (Up.refl wc).alloc (.cells #[.int .i64 0, .int .i64 0, .int .i64 0, .slice none 0 0] 67)
        have hy := Blk.new wc 67 #[.int .i64 0, .int .i64 0, .int .i64 0, .slice none 0 0]
        have hGy : w1.heap.size ≤ wc.heap.size := HW.size
        (try have hne : gx ≠ wc.heap.size := by have := hx.lt; omega)
        refine ⟨HW.trans hS, ?_⟩
        (try replace hva := hva.up hS)
        (try replace hvb := hvb.up hS)
        (try replace hx := hx.up hS)
        (try replace hy := hy.up hS)
        replace HW := HW.trans hS
        clear hS
        generalize (wc.alloc (.cells #[.int .i64 0, .int .i64 0, .int .i64 0, .slice none 0 0] 67)) = wn at *
        generalize wc.heap.size = gy at *
        generalize wn = wc at *
        refine tree_do (fun K hK => ?_)
        go_wp2_with fail
        refine (HTO2.out wc HW).mono ?_
        rintro en wc ⟨vb, rfl, hvb, hS⟩
        replace hvb := hvb.mono (show w1.heap.size ≤ _ from HW.size)
        obtain ⟨B2, d2, rfl, _⟩ := hvb.rd
        go_wp2_with fail
        refine ⟨HW.trans hS, ?_⟩
        (try replace hva := hva.up hS)
        (try replace hvb := hvb.up hS)
        (try replace hx := hx.up hS)
        (try replace hy := hy.up hS)
        replace HW := HW.trans hS
        clear hS
        refine tree_do (fun K hK => ?_)
        have hz := hx
        have z0 := hz.cell 0
        have z1 := hz.cell 1
        have z2 := hz.cell 2
        have z3 := hz.cell 3
        simp only [List.getElem?_toArray, List.getElem?_cons_succ, List.getElem?_cons_zero] at z0 z1 z2 z3
        have y0 := hz.frozen 0
        have y1 := hz.frozen 1
        have y2 := hz.frozen 2
        have y3 := hz.frozen 3
        go_wp2_with fail
        refine ⟨up_store4 HW hGx _ _ _ _, ?_⟩
        clear hz z0 z1 z2 z3 y0 y1 y2 y3
        refine tree_do (fun K hK => ?_)
        have hz := hy.upx (UpX.four wc gx (.int .i64 k1) (.int .i64 e1) (.int .i64 p1) (.slice B1 l1.length d1)) (fun e => hne e.symm)
        have z0 := hz.cell 0
        have z1 := hz.cell 1
        have z2 := hz.cell 2
        have z3 := hz.cell 3
        simp only [List.getElem?_toArray, List.getElem?_cons_succ, List.getElem?_cons_zero] at z0 z1 z2 z3
        have y0 := hz.frozen 0
        have y1 := hz.frozen 1
        have y2 := hz.frozen 2
        have y3 := hz.frozen 3
        go_wp2_with fail
        (try refine ⟨trivial, ?_⟩)
        (try refine tree_nil ?_)
        go_wp2_with fail
        go_meet
        exact tears_fin HW hGx hGy hne hx hy hva hvb
      refine tree_do (fun K hK => ?_)
      go_wp2_with fail
      have hS := (Up.refl wc).alloc (.cells #[.int .i64 0, .int .i64 0, .int .i64 0, .slice none 0 0] 67)
      have hy := Blk.new wc 67 #[.int .i64 0, .int .i64 0, .int .i64 0, .slice none 0 0]
      have hGy : w1.heap.size ≤ wc.heap.size := HW.size
      (try have hne : gx ≠ wc.heap.size := by have := hx.lt; omega)
      refine ⟨HW.trans hS, ?_⟩
      (try replace hva := hva.up hS)
      (try replace hvb := hvb.up hS)
      (try replace hx := hx.up hS)
      (try replace hy := hy.up hS)
      replace HW := HW.trans hS
      clear hS
      generalize (wc.alloc (.cells #[.int .i64 0, .int .i64 0, .int .i64 0, .slice none 0 0] 67)) = wn at *
      generalize wc.heap.size = gy at *
      generalize wn = wc at *
      refine tree_do (fun K hK => ?_)
      go_wp2_with fail
      refine (HTO1.out wc HW).mono ?_
      rintro en wc ⟨va, rfl, hva, hS⟩
      replace hva := hva.mono (show w1.heap.size ≤ _ from HW.size)
      obtain ⟨B1, d1, rfl, _⟩ := hva.rd
      go_wp2_with fail
      refine ⟨HW.trans hS, ?_⟩
      (try replace hva := hva.up hS)
      (try replace hvb := hvb.up hS)
      (try replace hx := hx.up hS)
      (try replace hy := hy.up hS)
      replace HW := HW.trans hS
      clear hS
      refine tree_do (fun K hK => ?_)
      go_wp2_with fail
      refine (HTO2.out wc HW).mono ?_
      rintro en wc ⟨vb, rfl, hvb, hS⟩
      replace hvb := hvb.mono (show w1.heap.size ≤ _ from HW.size)
      obtain ⟨B2, d2, rfl, _⟩ := hvb.rd
      go_wp2_with fail
      refine ⟨HW.trans hS, ?_⟩
      (try replace hva := hva.up hS)
      (try replace hvb := hvb.up hS)
      (try replace hx := hx.up hS)
      (try replace hy := hy.up hS)
      replace HW := HW.trans hS
      clear hS
      refine tree_do (fun K hK => ?_)
      have hz := hx
      have z0 := hz.cell 0
      have z1 := hz.cell 1
      have z2 := hz.cell 2
      have z3 := hz.cell 3
      simp only [List.getElem?_toArray, List.getElem?_cons_succ, List.getElem?_cons_zero] at z0 z1 z2 z3
      have y0 := hz.frozen 0
      have y1 := hz.frozen 1
      have y2 := hz.frozen 2
      have y3 := hz.frozen 3
      go_wp2_with fail
      refine ⟨up_store4 HW hGx _ _ _ _, ?_⟩
      clear hz z0 z1 z2 z3 y0 y1 y2 y3
      refine tree_do (fun K hK => ?_)
      have hz := hy.upx (UpX.four wc gx (.int .i64 k1) (.int .i64 e1) (.int .i64 p1) (.slice B1 l1.length d1)) (fun e => hne e.symm)
      have z0 := hz.cell 0
      have z1 := hz.cell 1
      have z2 := hz.cell 2
      have z3 := hz.cell 3
      simp only [List.getElem?_toArray, List.getElem?_cons_succ, List.getElem?_cons_zero] at z0 z1 z2 z3
      have y0 := hz.frozen 0
      have y1 := hz.frozen 1
      have y2 := hz.frozen 2
      have y3 := hz.frozen 3
      go_wp2_with fail
      (try refine ⟨trivial, ?_⟩)
      (try refine tree_nil ?_)
      go_wp2_with fail
      go_meet
      exact tears_fin HW hGx hGy hne hx hy hva hvb
    refine tree_do (fun K hK => ?_)
    go_wp2_with fail
    have hS := (Up.refl wc).alloc (.cells #[.int .i64 0, .int .i64 0, .int .i64 0, .slice none 0 0] 67)
    have hy := Blk.new wc 67 #[.int .i64 0, .int .i64 0, .int .i64 0, .slice none 0 0]
    have hGy : w1.heap.size ≤ wc.heap.size := HW.size
    (try have hne : gx ≠ wc.heap.size := by have := hx.lt; omega)
    refine ⟨HW.trans hS, ?_⟩
    (try replace hva := hva.up hS)
    (try replace hvb := hvb.up hS)
    (try replace hx := hx.up hS)
    (try replace hy := hy.up hS)
    replace HW := HW.trans hS
    clear hS
    generalize (wc.alloc (.cells #[.int .i64 0, .int .i64 0, .int .i64 0, .slice none 0 0] 67)) = wn at *
    generalize wc.heap.size = gy at *
    generalize wn = wc at *
    refine tree_alt (fun K hK => ?_) ?_
    · skip
      go_wp2_with fail
      refine (HTO1.out wc HW).mono ?_
      rintro en wc ⟨va, rfl, hva, hS⟩
      replace hva := hva.mono (show w1.heap.size ≤ _ from HW.size)
      obtain ⟨B1, d1, rfl, _⟩ := hva.rd
      go_wp2_with fail
      refine ⟨HW.trans hS, ?_⟩
      (try replace hva := hva.up hS)
      (try replace hvb := hvb.up hS)
      (try replace hx := hx.up hS)
      (try replace hy := hy.up hS)
      replace HW := HW.trans hS
      clear hS
      refine tree_alt (fun K hK => ?_) ?_
      · skip
        go_wp2_with fail
        refine (HTO2.out wc HW).mono ?_
        rintro en wc ⟨vb, rfl, hvb, hS⟩
        replace hvb := hvb.mono (show w1.heap.size ≤ _ from HW.size)
        obtain ⟨B2, d2, rfl, _⟩ := hvb.rd
        go_wp2_with fail
        refine ⟨HW.trans hS, ?_⟩
        (try replace hva := hva.up hS)
        (try replace hvb := hvb.up hS)
        (try replace hx := hx.up hS)
        (try replace hy := hy.up hS)
        replace HW := HW.trans hS
        clear hS
        refine tree_do (fun K hK => ?_)
        go_wp2_with fail
        have hS := (Up.refl wc).alloc (.cells #[.int .i64 0, .int .i64 0, .int .i64 0, .slice none 0 0] 67)
        have hx := Blk.new wc 67 #[.int .i64 0, .int .i64 0, .int .i64 0, .slice none 0 0]
        have hGx : w1.heap.size ≤ wc.heap.size := HW.size
        (try have hne : wc.heap.size ≠ gy := by have := hy.lt; omega)
        refine ⟨HW.trans hS, ?_⟩
        (try replace hva := hva.up hS)
        (try replace hvb := hvb.up hS)
        (try replace hx := hx.up hS)
        (try replace hy := hy.up hS)
        replace HW := HW.trans hS
        clear hS
        generalize (wc.alloc (.cells #[.int .i64 0, .int .i64 0, .int .i64 0, .slice none 0 0] 67)) = wn at *
        generalize wc.heap.size = gx at *
        generalize wn = wc at *
        refine tree_do (fun K hK => ?_)
        have hz := hx
        have z0 := hz.cell 0
        have z1 := hz.cell 1
        have z2 := hz.cell 2
        have z3 := hz.cell 3
        simp only [List.getElem?_toArray, List.getElem?_cons_succ, List.getElem?_cons_zero] at z0 z1 z2 z3
        have y0 := hz.frozen 0
        have y1 := hz.frozen 1
        have y2 := hz.frozen 2
        have y3 := hz.frozen 3
        go_wp2_with fail
        refine ⟨up_store4 HW hGx _ _ _ _, ?_⟩
        clear hz z0 z1 z2 z3 y0 y1 y2 y3
        refine tree_do (fun K hK => ?_)
        have hz := hy.upx (UpX.four wc gx (.int .i64 k1) (.int .i64 e1) (.int .i64 p1) (.slice B1 l1.length d1)) (fun e => hne e.symm)
        have z0 := hz.cell 0
        have z1 := hz.cell 1
        have z2 := hz.cell 2
        have z3 := hz.cell 3
        simp only [List.getElem?_toArray, List.getElem?_cons_succ, List.getElem?_cons_zero] at z0 z1 z2 z3
        have y0 := hz.frozen 0
        have y1 := hz.frozen 1
        have y2 := hz.frozen 2
        have y3 := hz.frozen 3
        go_wp2_with fail
        (try refine ⟨trivial, ?_⟩)
        (try refine tree_nil ?_)
        go_wp2_with fail
        go_meet
        exact tears_fin HW hGx hGy hne hx hy hva hvb
      refine tree_do (fun K hK => ?_)
      go_wp2_with fail
      have hS := (Up.refl wc).alloc (.cells #[.int .i64 0, .int .i64 0, .int .i64 0, .slice none 0 0] 67)
      have hx := Blk.new wc 67 #[.int .i64 0, .int .i64 0, .int .i64 0, .slice none 0 0]
      have hGx : w1.heap.size ≤ wc.heap.size := HW.size
      (try have hne : wc.heap.size ≠ gy := by have := hy.lt; omega)
      refine ⟨HW.trans hS, ?_⟩
      (try replace hva := hva.up hS)
      (try replace hvb := hvb.up hS)
      (try replace hx := hx.up hS)
      (try replace hy := hy.up hS)
      replace HW := HW.trans hS
      clear hS
      generalize (wc.alloc (.cells #[.int .i64 0, .int .i64 0, .int .i64 0, .slice none 0 0] 67)) = wn at *
      generalize wc.heap.size = gx at *
      generalize wn = wc at *
      refine tree_do (fun K hK => ?_)
      go_wp2_with fail
      refine (HTO2.out wc HW).mono ?_
      rintro en wc ⟨vb, rfl, hvb, hS⟩
      replace hvb := hvb.mono (show w1.heap.size ≤ _ from HW.size)
      obtain ⟨B2, d2, rfl, _⟩ := hvb.rd
      go_wp2_with fail
      refine ⟨HW.trans hS, ?_⟩
      (try replace hva := hva.up hS)
      (try replace hvb := hvb.up hS)
      (try replace hx := hx.up hS)
      (try replace hy := hy.up hS)
      replace HW := HW.trans hS
      clear hS
      refine tree_do (fun K hK => ?_)
      have hz := hx
      have z0 := hz.cell 0
      have z1 := hz.cell 1
      have z2 := hz.cell 2
      have z3 := hz.cell 3
      simp only [List.getElem?_toArray, List.getElem?_cons_succ, List.getElem?_cons_zero] at z0 z1 z2 z3
      have y0 := hz.frozen 0
      have y1 := hz.frozen 1
      have y2 := hz.frozen 2
      have y3 := hz.frozen 3
      go_wp2_with fail
      refine ⟨up_store4 HW hGx _ _ _ _, ?_⟩
      clear hz z0 z1 z2 z3 y0 y1 y2 y3
      refine tree_do (fun K hK => ?_)
      have hz := hy.upx (UpX.four wc gx (.int .i64 k1) (.int .i64 e1) (.int .i64 p1) (.slice B1 l1.length d1)) (fun e => hne e.symm)
      have z0 := hz.cell 0
      have z1 := hz.cell 1
      have z2 := hz.cell 2
      have z3 := hz.cell 3
      simp only [List.getElem?_toArray, List.getElem?_cons_succ, List.getElem?_cons_zero] at z0 z1 z2 z3
      have y0 := hz.frozen 0
      have y1 := hz.frozen 1
      have y2 := hz.frozen 2
      have y3 := hz.frozen 3
      go_wp2_with fail
      (try refine ⟨trivial, ?_⟩)
      (try refine tree_nil ?_)
      go_wp2_with fail
      go_meet
      exact tears_fin HW hGx hGy hne hx hy hva hvb
    refine tree_do (fun K hK => ?_)
    go_wp2_with fail
    have hS := (Up.refl wc).alloc (.cells #[.int .i64 0, .int .i64 0, .int .i64 0, .slice none 0 0] 67)
    have hx := Blk.new wc 67 #[.int .i64 0, .int .i64 0, .int .i64 0, .slice none 0 0]
    have hGx : w1.heap.size ≤ wc.heap.size := HW.size
    (try have hne : wc.heap.size ≠ gy := by have := hy.lt; omega)
    refine ⟨HW.trans hS, ?_⟩
    (try replace hva := hva.up hS)
    (try replace hvb := hvb.up hS)
    (try replace hx := hx.up hS)
    (try replace hy := hy.up hS)
    replace HW := HW.trans hS
    clear hS
    generalize (wc.alloc (.cells #[.int .i64 0, .int .i64 0, .int .i64 0, .slice none 0 0] 67)) = wn at *
    generalize wc.heap.size = gx at *
    generalize wn = wc at *
    refine tree_do (fun K hK => ?_)
    go_wp2_with fail
    refine (HTO1.out wc HW).mono ?_
    rintro en wc ⟨va, rfl, hva, hS⟩
    replace hva := hva.mono (show w1.heap.size ≤ _ from HW.size)
    obtain ⟨B1, d1, rfl, _⟩ := hva.rd
    go_wp2_with fail
    refine ⟨HW.trans hS, ?_⟩
    (try replace hva := hva.up hS)
    (try replace hvb := hvb.up hS)
    (try replace hx := hx.up hS)
    (try replace hy := hy.up hS)
    replace HW := HW.trans hS
    clear hS
    refine tree_do (fun K hK => ?_)
    go_wp2_with fail
    refine (HTO2.out wc HW).mono ?_
    rintro en wc ⟨vb, rfl, hvb, hS⟩
    replace hvb := hvb.mono (show w1.heap.size ≤ _ from HW.size)
    obtain ⟨B2, d2, rfl, _⟩ := hvb.rd
    go_wp2_with fail
    refine ⟨HW.trans hS, ?_⟩
    (try replace hva := hva.up hS)
    (try replace hvb := hvb.up hS)
    (try replace hx := hx.up hS)
    (try replace hy := hy.up hS)
    replace HW := HW.trans hS
    clear hS
    refine tree_do (fun K hK => ?_)
    have hz := hx
    have z0 := hz.cell 0
    have z1 := hz.cell 1
    have z2 := hz.cell 2
    have z3 := hz.cell 3
    simp only [List.getElem?_toArray, List.getElem?_cons_succ, List.getElem?_cons_zero] at z0 z1 z2 z3
    have y0 := hz.frozen 0
    have y1 := hz.frozen 1
    have y2 := hz.frozen 2
    have y3 := hz.frozen 3
    go_wp2_with fail
    refine ⟨up_store4 HW hGx _ _ _ _, ?_⟩
    clear hz z0 z1 z2 z3 y0 y1 y2 y3
    refine tree_do (fun K hK => ?_)
    have hz := hy.upx (UpX.four wc gx (.int .i64 k1) (.int .i64 e1) (.int .i64 p1) (.slice B1 l1.length d1)) (fun e => hne e.symm)
    have z0 := hz.cell 0
    have z1 := hz.cell 1
    have z2 := hz.cell 2
    have z3 := hz.cell 3
    simp only [List.getElem?_toArray, List.getElem?_cons_succ, List.getElem?_cons_zero] at z0 z1 z2 z3
    have y0 := hz.frozen 0
    have y1 := hz.frozen 1
    have y2 := hz.frozen 2
    have y3 := hz.frozen 3
    go_wp2_with fail
    (try refine ⟨trivial, ?_⟩)
    (try refine tree_nil ?_)
    go_wp2_with fail
    go_meet
    exact tears_fin HW hGx hGy hne hx hy hva hvb
  case rest =>
    obtain ⟨gx, gy, B1, d1, B2, d2, rfl, rfl, hne, hGx, hGy, hx, hy, rx, ry, hn1, hn2, hu⟩ := hcut.out
    go_upto_region 2 with fail
    have HCC : Cells [(⟨gx, 1, none⟩, .int .i64 e1), (⟨gx, 2, none⟩, .int .i64 p1)] wc.drew := Cells.cons (hx.drew.cell 1) (Cells.cons (hx.drew.cell 2) (Cells.nil _))
    refine wp_region_tree (Cells [(⟨gx, 1, none⟩, .int .i64 e1), (⟨gx, 2, none⟩, .int .i64 p1)]) (.quiet 0 (.quiet 1 (.quiet 2 (.quiet 3 (.quiet 4 (.quiet 5 (.alt 6 (.quiet 7 (.alt 8 (.nil) (.stop))) (.stop)))))))) (by kernel_rfl) (by kernel_rfl) rfl (by kernel_rfl) (by kernel_rfl) HCC ?_
    simp only [pickT, List.getElem?_cons_succ, List.getElem?_cons_zero, Option.getD_some]
    have hud : Up wc wc.drew := (Up.refl wc).drew
    replace hx := hx.drew
    replace hy := hy.drew
    replace rx := rx.up hud
    replace ry := ry.up hud
    replace hu := hu.trans hud
    clear hud hcut hf hg HTO1 HTO2
    generalize wc.drew = wd at *
    have u1 := hy.cell 1
    have u2 := hy.cell 2
    simp only [List.getElem?_toArray, List.getElem?_cons_succ, List.getElem?_cons_zero] at u1 u2
    have f1 := hy.frozen 1
    have f2 := hy.frozen 2
    iterate 1 (refine tree_step rfl (fun K hK => ?_); go_big_quiet_step ((intro _; rfl)); refine wpQuiet_nil (hK _ ?_); clear hK K)
    refine tree_load ⟨gx, 2, none⟩ (.int .i64 p1) (by kernel_rfl) rfl (by kernel_rfl) (fun w' h => h.tail.head) ?_
    dsimp only [Act.put]
    simp only [List.setIfInBounds_toArray, List.set_cons_zero, List.set_cons_succ]
    iterate 1 (refine tree_step rfl (fun K hK => ?_); go_big_quiet_step ((intro _; rfl)); refine wpQuiet_nil (hK _ ?_); clear hK K)
    refine tree_load ⟨gx, 1, none⟩ (.int .i64 e1) (by kernel_rfl) rfl (by kernel_rfl) (fun w' h => h.head) ?_
    dsimp only [Act.put]
    simp only [List.setIfInBounds_toArray, List.set_cons_zero, List.set_cons_succ]
    iterate 2 (refine tree_step rfl (fun K hK => ?_); go_big_quiet_step ((intro _; rfl)); refine wpQuiet_nil (hK _ ?_); clear hK K)
    refine tree_do (fun K hK => ?_)
    go_wp2_with fail
    have HCD : Cells [(⟨gx, 1, none⟩, .int .i64 e1), (⟨gx, 2, none⟩, .int .i64 p1)] (wd.setCell ⟨gy, 2, none⟩ (.int .i64 p1)) := HCC.upx (UpX.one _ gy 2 _) (by
      intro p hp
      simp only [List.mem_cons, List.not_mem_nil, or_false] at hp
      rcases hp with rfl | rfl <;> exact hne)
    refine ⟨HCD, ?_⟩
    iterate 1 (refine tree_step rfl (fun K hK => ?_); go_big_quiet_step ((intro _; rfl)); refine wpQuiet_nil (hK _ ?_); clear hK K)
    refine tree_do (fun K hK => ?_)
    go_wp2_with fail
    refine ⟨trivial, ?_⟩
    refine tree_nil ?_
    have hS : UpX (fun b => b = gy) wd ((wd.setCell ⟨gy, 2, none⟩ (.int .i64 p1)).setCell ⟨gy, 1, none⟩ (.int .i64 (wrap64 (e1 + 2)))) := (UpX.one _ gy 2 _).trans (UpX.one _ gy 1 _)
    have hY : Blk ((wd.setCell ⟨gy, 2, none⟩ (.int .i64 p1)).setCell ⟨gy, 1, none⟩ (.int .i64 (wrap64 (e1 + 2)))) gy 67 #[.int .i64 k2, .int .i64 (wrap64 (e1 + 2)), .int .i64 p1, .slice B2 l2.length d2] := by
      have := (hy.set 2 (.int .i64 p1)).set 1 (.int .i64 (wrap64 (e1 + 2)))
      simpa using this
    have hX := hx.upx hS hne
    have hRX := rx.upx hS (fun ad e _ => hn1 ad e)
    have hRY := ry.upx hS (fun ad e _ => hn2 ad e)
    have HU := Lib.hid (HU1.out.trans (hu.thenx hS (fun j hj e => by subst e; omega)))
    clear hS HCC HCD hx hy rx ry hn1 hn2 u1 u2 f1 f2 hu hGx hGy hne HU1
    generalize he' : wrap64 (e1 + 2) = e' at *
    generalize ((wd.setCell ⟨gy, 2, none⟩ (.int .i64 p1)).setCell ⟨gy, 1, none⟩ (.int .i64 e')) = w2 at *
    have HE := Lib.hid he'
    clear he'
    have HEN1 := frmEncode_all k1 e1 p1 B1 d1 l1 w2 hRX
    obtain ⟨La, hLa⟩ : ∃ L, (if frmCheck k1 e1 p1 l1 = 0 then frmEnc k1 e1 p1 l1 else []) = L := ⟨_, rfl⟩
    obtain ⟨f1, hf1⟩ : ∃ f, frmCheck k1 e1 p1 l1 = f := ⟨_, rfl⟩
    rw [hLa, hf1] at HEN1
    rw [hf1] at hLa
    have HEN2 := fun w3 h3 => frmEncode_all k2 e' p1 B2 d2 l2 w3 h3
    obtain ⟨Lb, hLb⟩ : ∃ L, (if frmCheck k2 e' p1 l2 = 0 then frmEnc k2 e' p1 l2 else []) = L := ⟨_, rfl⟩
    obtain ⟨f2, hf2⟩ : ∃ f, frmCheck k2 e' p1 l2 = f := ⟨_, rfl⟩
    rw [hLb, hf2] at HEN2
    rw [hf2] at hLb
    have HE1 := Lib.hid HEN1
    have HE2 := Lib.hid HEN2
    have HLA := Lib.hid hLa
    have HLB := Lib.hid hLb
    have HF1 := Lib.hid hf1
    have HF2 := Lib.hid hf2
    have HX := Lib.hid hX
    have HY := Lib.hid hY
    have HRX := Lib.hid hRX
    have HRY := Lib.hid hRY
    have q0 := hX.cell 0
    have q1 := hX.cell 1
    have q2 := hX.cell 2
    have q3 := hX.cell 3
    simp only [List.getElem?_toArray, List.getElem?_cons_succ, List.getElem?_cons_zero] at q0 q1 q2 q3
    clear HEN1 HEN2 hLa hLb hf1 hf2 hX hY hRX hRY
    go_wp2_with fail
    refine (HE1.out).mono ?_
    intro en w3 hp
    obtain ⟨va, rfl, hva, hu3⟩ := hp.out
    obtain ⟨Ba, da, rfl, ra⟩ := hva.rd
    have HRA := Lib.hid ra
    have HU3 := Lib.hid hu3
    have HE3 := Lib.hid (HE2.out w3 (HRY.out.up hu3))
    have v0 := (HY.out.up hu3).cell 0
    have v1 := (HY.out.up hu3).cell 1
    have v2 := (HY.out.up hu3).cell 2
    have v3 := (HY.out.up hu3).cell 3
    simp only [List.getElem?_toArray, List.getElem?_cons_succ, List.getElem?_cons_zero] at v0 v1 v2 v3
    clear hp hva ra hu3 q0 q1 q2 q3 HE1 HE2
    go_wp2_with fail
    refine (HE3.out).mono ?_
    intro en w5 hp
    obtain ⟨vb, rfl, hvb, hu5⟩ := hp.out
    obtain ⟨Bb, db, rfl, rb⟩ := hvb.rd
    have HRB := Lib.hid rb
    have HRA5 := Lib.hid (HRA.out.up hu5)
    have HU25 := Lib.hid (HU3.out.trans hu5)
    have HU5 := Lib.hid (HU.out.trans HU25.out)
    have HX5 := Lib.hid (HX.out.up HU25.out)
    have HY5 := Lib.hid (HY.out.up HU25.out)
    have HRX5 := Lib.hid (HRX.out.up HU25.out)
    have HRY5 := Lib.hid (HRY.out.up HU25.out)
    clear hp hvb rb hu5 v0 v1 v2 v3 HE3 HU HU3 HU25 HX HY HRX HRY HRA
    go_upto_region 5 with fail
    by_cases hz1 : f1 = 0
    · by_cases hz2 : f2 = 0
      · subst hz1 hz2
        have hla : frmEnc k1 e1 p1 l1 = La := by have := HLA.out; rwa [if_pos rfl] at this
        have hlb : frmEnc k2 e' p1 l2 = Lb := by have := HLB.out; rwa [if_pos rfl] at this
        have ho1 := (frmCheck_iff _ _ _ _).1 HF1.out
        have ho2 := (frmCheck_iff _ _ _ _).1 HF2.out
        have hna : La.length = 256 := by rw [← hla]; exact frmEnc_len ho1.lb
        have hnb : Lb.length = 256 := by rw [← hlb]; exact frmEnc_len ho2.lb
        have HT := Lib.hid (frmDec_torn ho1 ho2 (by have := HE.out; have := ho1.e0; have := ho1.e1; unfold wrap64 at *; omega) HRX5.out.u8 HRY5.out.u8 i (by omega))
        rw [hla, hlb] at HT
        obtain ⟨L, hL⟩ : ∃ L, Lb.take i ++ La.drop i = L := ⟨_, rfl⟩
        have HDEC := Lib.hid (fun w A c h => frmDecode_calls A c L w h)
        rw [hL] at HT
        have HLE := Lib.hid hL
        have HNA := Lib.hid hna
        have HNB := Lib.hid hnb
        have hca : 256 ≤ da := by have := HRA5.out.le; omega
        have hcb : 256 ≤ db := by have := HRB.out.le; omega
        have HLT := Lib.hid (show i = (Lb.take i).length by rw [List.length_take]; omega)
        have HLD := Lib.hid (show 256 - i = (La.drop i).length by rw [List.length_drop]; omega)
        obtain ⟨A59, e59, hr59⟩ := HRB.out.sliced 0 i db (by omega) (by omega) (by omega) (Nat.le_refl _)
        obtain ⟨A63, e63, hr63⟩ := HRA5.out.sliced i 256 da (by omega) (by omega) (by omega) (Nat.le_refl _)
        rw [List.drop_zero] at hr59
        rw [List.take_of_length_le (by omega)] at hr63
        rw [Nat.sub_zero, Nat.sub_zero] at e59
        have HR59 := Lib.hid hr59
        have HR63 := Lib.hid hr63
        have HS59 := Lib.hid e59
        have HS63 := Lib.hid e63
        rw [hna, hnb]
        clear hla hlb ho1 ho2 hna hnb hL hr59 hr63 e59 e63 HLA HLB HF1 HF2
        generalize frmDec L = R at HT HDEC
        obtain ⟨a1, a2, a3, a4, a5⟩ := R
        have hmm := HM.out
        go_upto_region 10 with fail
        go_cut [13, 14] (fun x y wx => TZ w5 a1 a2 a3 a4 a5 x y wx)
        case first =>
          refine wp_region_tree (fun w' => Up w5 w') (.quiet 1 (.quiet 2 (.quiet 3 (.quiet 5 (.quiet 6 (.quiet 7 (.alt 0 (.alt 4 (.alt 8 (.alt 9 (.quiet 10 (.quiet 11 (.quiet 12 (.alt 13 (.alt 14 (.quiet 15 (.nil)) (.stop)) (.stop))))) (.alt 13 (.alt 9 (.quiet 10 (.quiet 11 (.quiet 12 (.alt 14 (.quiet 15 (.nil)) (.stop))))) (.stop)) (.stop))) (.alt 13 (.alt 8 (.alt 9 (.quiet 10 (.quiet 11 (.quiet 12 (.alt 14 (.quiet 15 (.nil)) (.stop))))) (.stop)) (.stop)) (.stop))) (.alt 13 (.alt 4 (.alt 8 (.alt 9 (.quiet 10 (.quiet 11 (.quiet 12 (.alt 14 (.quiet 15 (.nil)) (.stop))))) (.stop)) (.stop)) (.stop)) (.stop))) (.alt 13 (.alt 0 (.alt 4 (.alt 8 (.alt 9 (.quiet 10 (.quiet 11 (.quiet 12 (.alt 14 (.quiet 15 (.nil)) (.stop))))) (.stop)) (.stop)) (.stop)) (.stop)) (.stop))))))))) (by kernel_rfl) (by kernel_rfl) rfl (by kernel_rfl) (by kernel_rfl) ((Up.refl w5).drew) ?_
          simp only [pickT, List.getElem?_cons_succ, List.getElem?_cons_zero, Option.getD_some]
          iterate 2 (refine tree_step rfl (fun K hK => ?_); go_big_quiet_step ((intro _; rfl)); refine wpQuiet_nil (hK _ ?_); clear hK K)
          refine tree_slice_hi 5 1 (.int .u8 0) Bb 256 db .i64 (i : Int) Try.underlying22 infoU8 (by kernel_rfl) rfl rfl (by omega) (by omega) ?_
          rw [show sliced Bb 0 (i : Int).toNat db 1 = .slice A59 i db by rw [Int.toNat_natCast]; exact HS59.out]
          dsimp only [Act.put]
          simp only [List.setIfInBounds_toArray, List.set_cons_zero, List.set_cons_succ]
          iterate 2 (refine tree_step rfl (fun K hK => ?_); go_big_quiet_step ((intro _; rfl)); refine wpQuiet_nil (hK _ ?_); clear hK K)
          refine tree_slice_lo 5 1 (.int .u8 0) Ba 256 da .i64 (i : Int) Try.underlying22 infoU8 (by kernel_rfl) rfl rfl (by omega) (by omega) ?_
          rw [show sliced Ba (i : Int).toNat 256 da 1 = .slice A63 (256 - i) (da - i) by rw [Int.toNat_natCast]; exact HS63.out]
          dsimp only [Act.put]
          simp only [List.setIfInBounds_toArray, List.set_cons_zero, List.set_cons_succ]
          have HW := (Up.refl w5).drew
          generalize w5.drew = wc at *
          refine tree_alt (fun K hK => ?_) ?_
          · skip
            go_wp2_with fail
            have hS := (Up.refl wc).alloc (.cells #[] 5)
            have hv0 : Own (wc.alloc (.cells #[] 5)) w5.heap.size 5 .u8 (.slice (some ⟨wc.heap.size, 0, none⟩) 0 0) [] := Own.lit wc _ _ _ [] HW.size (by simp) (by simp) 0 rfl _ rfl
            refine ⟨HW.trans hS, ?_⟩
            (try replace hv0 := hv0.up hS)
            (try replace hv4 := hv4.up hS)
            (try replace hv8 := hv8.up hS)
            (try replace hv9 := hv9.up hS)
            (try replace hx := hx.up hS)
            replace HW := HW.trans hS
            clear hS
            generalize (wc.alloc (.cells #[] 5)) = wn at *
            generalize wc.heap.size = g0 at *
            generalize wn = wc at *
            refine tree_alt (fun K hK => ?_) ?_
            · skip
              refine wpl_append (t := 22) w5.heap.size 5 .u8 1 Try.underlying22 infoU8 _ [] rfl hv0 A59 _ _ (Lb.take i) rfl HLT.out (HR59.out.up HW) (by have := HLT.out; simp; omega) (by decide) HW.size ?_
              intro v4 wc hv4 hX _
              rw [List.nil_append] at hv4
              (try replace hx := hx.upx hX (fun e => own_ne hv0 hx _ e rfl))
              replace HW := HW.thenx hX (fun b hb e => by have := (hv0.lt b e).1; omega)
              clear hX hv0
              go_wp2_with fail
              refine ⟨HW, ?_⟩
              refine tree_alt (fun K hK => ?_) ?_
              · skip
                refine wpl_append (t := 22) w5.heap.size 5 .u8 1 Try.underlying22 infoU8 _ (Lb.take i) rfl hv4 A63 _ _ (La.drop i) rfl HLD.out (HR63.out.up HW) (by have := HLT.out; have := HLD.out; omega) (by decide) HW.size ?_
                intro v8 wc hv8 hX _
                rw [HLE.out] at hv8
                (try replace hx := hx.upx hX (fun e => own_ne hv4 hx _ e rfl))
                replace HW := HW.thenx hX (fun b hb e => by have := (hv4.lt b e).1; omega)
                clear hX hv4
                go_wp2_with fail
                refine ⟨HW, ?_⟩
                refine tree_alt (fun K hK => ?_) ?_
                · skip
                  obtain ⟨B8, d8, rfl, r8⟩ := hv8.rd
                  go_wp2_with fail
                  refine (HDEC.out wc B8 d8 r8).mono ?_
                  rintro en wc hp
                  replace hp := hp.out
                  dsimp only at hp
                  obtain ⟨v9, rfl, hv9, hS⟩ := hp
                  replace hv9 := hv9.mono (show w5.heap.size ≤ _ from HW.size)
                  obtain ⟨B9, d9, rfl, _⟩ := hv9.rd
                  go_wp2_with fail
                  refine ⟨HW.trans hS, ?_⟩
                  clear hv8 r8
                  (try replace hv0 := hv0.up hS)
                  (try replace hv4 := hv4.up hS)
                  (try replace hv8 := hv8.up hS)
                  (try replace hv9 := hv9.up hS)
                  (try replace hx := hx.up hS)
                  replace HW := HW.trans hS
                  clear hS
                  repeat (refine tree_step rfl (fun K hK => ?_); go_big_quiet_step ((intro _; rfl)); refine wpQuiet_nil (hK _ ?_); clear hK K)
                  refine tree_do (fun K hK => ?_)
                  go_wp2_with fail
                  have hS := (Up.refl wc).alloc (.cells #[.int .i64 0, .int .i64 0, .int .i64 0, .slice none 0 0] 67)
                  have hx := Blk.new wc 67 #[.int .i64 0, .int .i64 0, .int .i64 0, .slice none 0 0]
                  have hGz : w5.heap.size ≤ wc.heap.size := HW.size
                  refine ⟨HW.trans hS, ?_⟩
                  (try replace hv0 := hv0.up hS)
                  (try replace hv4 := hv4.up hS)
                  (try replace hv8 := hv8.up hS)
                  (try replace hv9 := hv9.up hS)
                  (try replace hx := hx.up hS)
                  replace HW := HW.trans hS
                  clear hS
                  generalize (wc.alloc (.cells #[.int .i64 0, .int .i64 0, .int .i64 0, .slice none 0 0] 67)) = wn at *
                  generalize wc.heap.size = gz at *
                  generalize wn = wc at *
                  refine tree_do (fun K hK => ?_)
                  have hz := hx
                  have z0 := hz.cell 0
                  have z1 := hz.cell 1
                  have z2 := hz.cell 2
                  have z3 := hz.cell 3
                  simp only [List.getElem?_toArray, List.getElem?_cons_succ, List.getElem?_cons_zero] at z0 z1 z2 z3
                  have y0 := hz.frozen 0
                  have y1 := hz.frozen 1
                  have y2 := hz.frozen 2
                  have y3 := hz.frozen 3
                  go_wp2_with fail
                  refine ⟨up_store4 HW hGz _ _ _ _, ?_⟩
                  clear hz z0 z1 z2 z3 y0 y1 y2 y3
                  repeat (refine tree_step rfl (fun K hK => ?_); go_big_quiet_step ((intro _; rfl)); refine wpQuiet_nil (hK _ ?_); clear hK K)
                  refine tree_nil ?_
                  go_wp2_with fail
                  go_meet
                  exact tearz_fin HW hGz hx hv9
                refine tree_do (fun K hK => ?_)
                go_wp2_with fail
                have hS := (Up.refl wc).alloc (.cells #[.int .i64 0, .int .i64 0, .int .i64 0, .slice none 0 0] 67)
                have hx := Blk.new wc 67 #[.int .i64 0, .int .i64 0, .int .i64 0, .slice none 0 0]
                have hGz : w5.heap.size ≤ wc.heap.size := HW.size
                refine ⟨HW.trans hS, ?_⟩
                (try replace hv0 := hv0.up hS)
                (try replace hv4 := hv4.up hS)
                (try replace hv8 := hv8.up hS)
                (try replace hv9 := hv9.up hS)
                (try replace hx := hx.up hS)
                replace HW := HW.trans hS
                clear hS
                generalize (wc.alloc (.cells #[.int .i64 0, .int .i64 0, .int .i64 0, .slice none 0 0] 67)) = wn at *
                generalize wc.heap.size = gz at *
                generalize wn = wc at *
                refine tree_do (fun K hK => ?_)
                obtain ⟨B8, d8, rfl, r8⟩ := hv8.rd
                go_wp2_with fail
                refine (HDEC.out wc B8 d8 r8).mono ?_
                rintro en wc hp
                replace hp := hp.out
                dsimp only at hp
                obtain ⟨v9, rfl, hv9, hS⟩ := hp
                replace hv9 := hv9.mono (show w5.heap.size ≤ _ from HW.size)
                obtain ⟨B9, d9, rfl, _⟩ := hv9.rd
                go_wp2_with fail
                refine ⟨HW.trans hS, ?_⟩
                clear hv8 r8
                (try replace hv0 := hv0.up hS)
                (try replace hv4 := hv4.up hS)
                (try replace hv8 := hv8.up hS)
                (try replace hv9 := hv9.up hS)
                (try replace hx := hx.up hS)
                replace HW := HW.trans hS
                clear hS
                repeat (refine tree_step rfl (fun K hK => ?_); go_big_quiet_step ((intro _; rfl)); refine wpQuiet_nil (hK _ ?_); clear hK K)
                refine tree_do (fun K hK => ?_)
                have hz := hx
                have z0 := hz.cell 0
                have z1 := hz.cell 1
                have z2 := hz.cell 2
                have z3 := hz.cell 3
                simp only [List.getElem?_toArray, List.getElem?_cons_succ, List.getElem?_cons_zero] at z0 z1 z2 z3
                have y0 := hz.frozen 0
                have y1 := hz.frozen 1
                have y2 := hz.frozen 2
                have y3 := hz.frozen 3
                go_wp2_with fail
                refine ⟨up_store4 HW hGz _ _ _ _, ?_⟩
                clear hz z0 z1 z2 z3 y0 y1 y2 y3
                repeat (refine tree_step rfl (fun K hK => ?_); go_big_quiet_step ((intro _; rfl)); refine wpQuiet_nil (hK _ ?_); clear hK K)
                refine tree_nil ?_
                go_wp2_with fail
                go_meet
                exact tearz_fin HW hGz hx hv9
              refine tree_do (fun K hK => ?_)
              go_wp2_with fail
              have hS := (Up.refl wc).alloc (.cells #[.int .i64 0, .int .i64 0, .int .i64 0, .slice none 0 0] 67)
              have hx := Blk.new wc 67 #[.int .i64 0, .int .i64 0, .int .i64 0, .slice none 0 0]
              have hGz : w5.heap.size ≤ wc.heap.size := HW.size
              refine ⟨HW.trans hS, ?_⟩
              (try replace hv0 := hv0.up hS)
              (try replace hv4 := hv4.up hS)
              (try replace hv8 := hv8.up hS)
              (try replace hv9 := hv9.up hS)
              (try replace hx := hx.up hS)
              replace HW := HW.trans hS
              clear hS
              generalize (wc.alloc (.cells #[.int .i64 0, .int .i64 0, .int .i64 0, .slice none 0 0] 67)) = wn at *
              generalize wc.heap.size = gz at *
              generalize wn = wc at *
              refine tree_do (fun K hK => ?_)
              refine wpl_append (t := 22) w5.heap.size 5 .u8 1 Try.underlying22 infoU8 _ (Lb.take i) rfl hv4 A63 _ _ (La.drop i) rfl HLD.out (HR63.out.up HW) (by have := HLT.out; have := HLD.out; omega) (by decide) HW.size ?_
              intro v8 wc hv8 hX _
              rw [HLE.out] at hv8
              (try replace hx := hx.upx hX (fun e => own_ne hv4 hx _ e rfl))
              replace HW := HW.thenx hX (fun b hb e => by have := (hv4.lt b e).1; omega)
              clear hX hv4
              go_wp2_with fail
              refine ⟨HW, ?_⟩
              refine tree_do (fun K hK => ?_)
              obtain ⟨B8, d8, rfl, r8⟩ := hv8.rd
              go_wp2_with fail
              refine (HDEC.out wc B8 d8 r8).mono ?_
              rintro en wc hp
              replace hp := hp.out
              dsimp only at hp
              obtain ⟨v9, rfl, hv9, hS⟩ := hp
              replace hv9 := hv9.mono (show w5.heap.size ≤ _ from HW.size)
              obtain ⟨B9, d9, rfl, _⟩ := hv9.rd
              go_wp2_with fail
              refine ⟨HW.trans hS, ?_⟩
              clear hv8 r8
              (try replace hv0 := hv0.up hS)
              (try replace hv4 := hv4.up hS)
              (try replace hv8 := hv8.up hS)
              (try replace hv9 := hv9.up hS)
              (try replace hx := hx.up hS)
              replace HW := HW.trans hS
              clear hS
              repeat (refine tree_step rfl (fun K hK => ?_); go_big_quiet_step ((intro _; rfl)); refine wpQuiet_nil (hK _ ?_); clear hK K)
              refine tree_do (fun K hK => ?_)
              have hz := hx
              have z0 := hz.cell 0
              have z1 := hz.cell 1
              have z2 := hz.cell 2
              have z3 := hz.cell 3
              simp only [List.getElem?_toArray, List.getElem?_cons_succ, List.getElem?_cons_zero] at z0 z1 z2 z3
              have y0 := hz.frozen 0
              have y1 := hz.frozen 1
              have y2 := hz.frozen 2
              have y3 := hz.frozen 3
              go_wp2_with fail
              refine ⟨up_store4 HW hGz _ _ _ _, ?_⟩
              clear hz z0 z1 z2 z3 y0 y1 y2 y3
              repeat (refine tree_step rfl (fun K hK => ?_); go_big_quiet_step ((intro _; rfl)); refine wpQuiet_nil (hK _ ?_); clear hK K)
              refine tree_nil ?_
              go_wp2_with fail
              go_meet
              exact tearz_fin HW hGz hx hv9
            refine tree_do (fun K hK => ?_)
            go_wp2_with fail
            have hS := (Up.refl wc).alloc (.cells #[.int .i64 0, .int .i64 0, .int .i64 0, .slice none 0 0] 67)
            have hx := Blk.new wc 67 #[.int .i64 0, .int .i64 0, .int .i64 0, .slice none 0 0]
            have hGz : w5.heap.size ≤ wc.heap.size := HW.size
            refine ⟨HW.trans hS, ?_⟩
            (try replace hv0 := hv0.up hS)
            (try replace hv4 := hv4.up hS)
            (try replace hv8 := hv8.up hS)
            (try replace hv9 := hv9.up hS)
            (try replace hx := hx.up hS)
            replace HW := HW.trans hS
            clear hS
            generalize (wc.alloc (.cells #[.int .i64 0, .int .i64 0, .int .i64 0, .slice none 0 0] 67)) = wn at *
            generalize wc.heap.size = gz at *
            generalize wn = wc at *
            refine tree_do (fun K hK => ?_)
            refine wpl_append (t := 22) w5.heap.size 5 .u8 1 Try.underlying22 infoU8 _ [] rfl hv0 A59 _ _ (Lb.take i) rfl HLT.out (HR59.out.up HW) (by have := HLT.out; simp; omega) (by decide) HW.size ?_
            intro v4 wc hv4 hX _
            rw [List.nil_append] at hv4
            (try replace hx := hx.upx hX (fun e => own_ne hv0 hx _ e rfl))
            replace HW := HW.thenx hX (fun b hb e => by have := (hv0.lt b e).1; omega)
            clear hX hv0
            go_wp2_with fail
            refine ⟨HW, ?_⟩
            refine tree_do (fun K hK => ?_)
            refine wpl_append (t := 22) w5.heap.size 5 .u8 1 Try.underlying22 infoU8 _ (Lb.take i) rfl hv4 A63 _ _ (La.drop i) rfl HLD.out (HR63.out.up HW) (by have := HLT.out; have := HLD.out; omega) (by decide) HW.size ?_
            intro v8 wc hv8 hX _
            rw [HLE.out] at hv8
            (try replace hx := hx.upx hX (fun e => own_ne hv4 hx _ e rfl))
            replace HW := HW.thenx hX (fun b hb e => by have := (hv4.lt b e).1; omega)
            clear hX hv4
            go_wp2_with fail
            refine ⟨HW, ?_⟩
            refine tree_do (fun K hK => ?_)
            obtain ⟨B8, d8, rfl, r8⟩ := hv8.rd
            go_wp2_with fail
            refine (HDEC.out wc B8 d8 r8).mono ?_
            rintro en wc hp
            replace hp := hp.out
            dsimp only at hp
            obtain ⟨v9, rfl, hv9, hS⟩ := hp
            replace hv9 := hv9.mono (show w5.heap.size ≤ _ from HW.size)
            obtain ⟨B9, d9, rfl, _⟩ := hv9.rd
            go_wp2_with fail
            refine ⟨HW.trans hS, ?_⟩
            clear hv8 r8
            (try replace hv0 := hv0.up hS)
            (try replace hv4 := hv4.up hS)
            (try replace hv8 := hv8.up hS)
            (try replace hv9 := hv9.up hS)
            (try replace hx := hx.up hS)
            replace HW := HW.trans hS
            clear hS
            repeat (refine tree_step rfl (fun K hK => ?_); go_big_quiet_step ((intro _; rfl)); refine wpQuiet_nil (hK _ ?_); clear hK K)
            refine tree_do (fun K hK => ?_)
            have hz := hx
            have z0 := hz.cell 0
            have z1 := hz.cell 1
            have z2 := hz.cell 2
            have z3 := hz.cell 3
            simp only [List.getElem?_toArray, List.getElem?_cons_succ, List.getElem?_cons_zero] at z0 z1 z2 z3
            have y0 := hz.frozen 0
            have y1 := hz.frozen 1
            have y2 := hz.frozen 2
            have y3 := hz.frozen 3
            go_wp2_with fail
            refine ⟨up_store4 HW hGz _ _ _ _, ?_⟩
            clear hz z0 z1 z2 z3 y0 y1 y2 y3
            repeat (refine tree_step rfl (fun K hK => ?_); go_big_quiet_step ((intro _; rfl)); refine wpQuiet_nil (hK _ ?_); clear hK K)
            refine tree_nil ?_
            go_wp2_with fail
            go_meet
            exact tearz_fin HW hGz hx hv9
          refine tree_do (fun K hK => ?_)
          go_wp2_with fail
          have hS := (Up.refl wc).alloc (.cells #[.int .i64 0, .int .i64 0, .int .i64 0, .slice none 0 0] 67)
          have hx := Blk.new wc 67 #[.int .i64 0, .int .i64 0, .int .i64 0, .slice none 0 0]
          have hGz : w5.heap.size ≤ wc.heap.size := HW.size
          refine ⟨HW.trans hS, ?_⟩
          (try replace hv0 := hv0.up hS)
          (try replace hv4 := hv4.up hS)
          (try replace hv8 := hv8.up hS)
          (try replace hv9 := hv9.up hS)
          (try replace hx := hx.up hS)
          replace HW := HW.trans hS
          clear hS
          generalize (wc.alloc (.cells #[.int .i64 0, .int .i64 0, .int .i64 0, .slice none 0 0] 67)) = wn at *
          generalize wc.heap.size = gz at *
          generalize wn = wc at *
          refine tree_do (fun K hK => ?_)
          go_wp2_with fail
          have hS := (Up.refl wc).alloc (.cells #[] 5)
          have hv0 : Own (wc.alloc (.cells #[] 5)) w5.heap.size 5 .u8 (.slice (some ⟨wc.heap.size, 0, none⟩) 0 0) [] := Own.lit wc _ _ _ [] HW.size (by simp) (by simp) 0 rfl _ rfl
          refine ⟨HW.trans hS, ?_⟩
          (try replace hv0 := hv0.up hS)
          (try replace hv4 := hv4.up hS)
          (try replace hv8 := hv8.up hS)
          (try replace hv9 := hv9.up hS)
          (try replace hx := hx.up hS)
          replace HW := HW.trans hS
          clear hS
          generalize (wc.alloc (.cells #[] 5)) = wn at *
          generalize wc.heap.size = g0 at *
          generalize wn = wc at *
          refine tree_do (fun K hK => ?_)
          refine wpl_append (t := 22) w5.heap.size 5 .u8 1 Try.underlying22 infoU8 _ [] rfl hv0 A59 _ _ (Lb.take i) rfl HLT.out (HR59.out.up HW) (by have := HLT.out; simp; omega) (by decide) HW.size ?_
          intro v4 wc hv4 hX _
          rw [List.nil_append] at hv4
          (try replace hx := hx.upx hX (fun e => own_ne hv0 hx _ e rfl))
          replace HW := HW.thenx hX (fun b hb e => by have := (hv0.lt b e).1; omega)
          clear hX hv0
          go_wp2_with fail
          refine ⟨HW, ?_⟩
          refine tree_do (fun K hK => ?_)
          refine wpl_append (t := 22) w5.heap.size 5 .u8 1 Try.underlying22 infoU8 _ (Lb.take i) rfl hv4 A63 _ _ (La.drop i) rfl HLD.out (HR63.out.up HW) (by have := HLT.out; have := HLD.out; omega) (by decide) HW.size ?_
          intro v8 wc hv8 hX _
          rw [HLE.out] at hv8
          (try replace hx := hx.upx hX (fun e => own_ne hv4 hx _ e rfl))
          replace HW := HW.thenx hX (fun b hb e => by have := (hv4.lt b e).1; omega)
          clear hX hv4
          go_wp2_with fail
          refine ⟨HW, ?_⟩
          refine tree_do (fun K hK => ?_)
          obtain ⟨B8, d8, rfl, r8⟩ := hv8.rd
          go_wp2_with fail
          refine (HDEC.out wc B8 d8 r8).mono ?_
          rintro en wc hp
          replace hp := hp.out
          dsimp only at hp
          obtain ⟨v9, rfl, hv9, hS⟩ := hp
          replace hv9 := hv9.mono (show w5.heap.size ≤ _ from HW.size)
          obtain ⟨B9, d9, rfl, _⟩ := hv9.rd
          go_wp2_with fail
          refine ⟨HW.trans hS, ?_⟩
          clear hv8 r8
          (try replace hv0 := hv0.up hS)
          (try replace hv4 := hv4.up hS)
          (try replace hv8 := hv8.up hS)
          (try replace hv9 := hv9.up hS)
          (try replace hx := hx.up hS)
          replace HW := HW.trans hS
          clear hS
          repeat (refine tree_step rfl (fun K hK => ?_); go_big_quiet_step ((intro _; rfl)); refine wpQuiet_nil (hK _ ?_); clear hK K)
          refine tree_do (fun K hK => ?_)
          have hz := hx
          have z0 := hz.cell 0
          have z1 := hz.cell 1
          have z2 := hz.cell 2
          have z3 := hz.cell 3
          simp only [List.getElem?_toArray, List.getElem?_cons_succ, List.getElem?_cons_zero] at z0 z1 z2 z3
          have y0 := hz.frozen 0
          have y1 := hz.frozen 1
          have y2 := hz.frozen 2
          have y3 := hz.frozen 3
          go_wp2_with fail
          refine ⟨up_store4 HW hGz _ _ _ _, ?_⟩
          clear hz z0 z1 z2 z3 y0 y1 y2 y3
          repeat (refine tree_step rfl (fun K hK => ?_); go_big_quiet_step ((intro _; rfl)); refine wpQuiet_nil (hK _ ?_); clear hK K)
          refine tree_nil ?_
          go_wp2_with fail
          go_meet
          exact tearz_fin HW hGz hx hv9
        case rest =>
          clear hmm HR59 HR63 HS59 HS63 HDEC HLE HNA HNB HLT HLD hca hcb
          obtain ⟨gz, Bz, dz, rfl, rfl, hz, rz, huz⟩ := hcut.out
          have HZ := Lib.hid hz
          have HRZ := Lib.hid rz
          have HUZ := Lib.hid (HU5.out.trans huz)
          have HXZ := Lib.hid (HX5.out.up huz)
          have HYZ := Lib.hid (HY5.out.up huz)
          have HRXZ := Lib.hid (HRX5.out.up huz)
          have HRYZ := Lib.hid (HRY5.out.up huz)
          clear hcut hz rz huz HU5 HX5 HY5 HRX5 HRY5 HRA5 HRB
          rcases HT.out with h5 | h5 | h5
          · have hcn : (a5 != 0) = true := by simpa using h5
            clear h5
            go_wp2_with fail
            refine (frmKnown_calls _).mono ?_
            rintro en w8 ⟨rfl, hu8⟩
            go_wp2_with fail
            go_ret
            exact ⟨rfl, HUZ.out.trans hu8⟩
          · simp only [Prod.mk.injEq] at h5
            obtain ⟨rfl, rfl, rfl, rfl, rfl⟩ := h5
            go_wp2_with fail
            refine (frmKnown_calls _).mono ?_
            rintro en w8 ⟨rfl, hu8⟩
            have p0 := (HZ.out.up hu8).cell 0
            have p1 := (HZ.out.up hu8).cell 1
            have p2 := (HZ.out.up hu8).cell 2
            have p3 := (HZ.out.up hu8).cell 3
            have q0 := (HXZ.out.up hu8).cell 0
            have q1 := (HXZ.out.up hu8).cell 1
            have q2 := (HXZ.out.up hu8).cell 2
            have q3 := (HXZ.out.up hu8).cell 3
            have v0 := (HYZ.out.up hu8).cell 0
            have v1 := (HYZ.out.up hu8).cell 1
            have v2 := (HYZ.out.up hu8).cell 2
            have v3 := (HYZ.out.up hu8).cell 3
            simp only [List.getElem?_toArray, List.getElem?_cons_succ, List.getElem?_cons_zero] at p0 p1 p2 p3 q0 q1 q2 q3 v0 v1 v2 v3
            have HSM := Lib.hid (frmSame_calls a1 a2 a3 Bz dz a4 a1 a2 a3 B1 d1 a4 w8 (HRZ.out.up hu8) (HRXZ.out.up hu8))
            rw [decide_eq_true (⟨rfl, rfl, rfl, rfl⟩ : a1 = a1 ∧ a2 = a2 ∧ a3 = a3 ∧ a4 = a4)] at HSM
            go_wp2_with fail
            refine (HSM.out).mono ?_
            rintro en w9 ⟨rfl, hu9⟩
            go_wp2_with fail
            go_ret
            exact ⟨rfl, (HUZ.out.trans hu8).trans hu9⟩
          · simp only [Prod.mk.injEq] at h5
            obtain ⟨rfl, rfl, rfl, rfl, rfl⟩ := h5
            go_wp2_with fail
            refine (frmKnown_calls _).mono ?_
            rintro en w8 ⟨rfl, hu8⟩
            have p0 := (HZ.out.up hu8).cell 0
            have p1 := (HZ.out.up hu8).cell 1
            have p2 := (HZ.out.up hu8).cell 2
            have p3 := (HZ.out.up hu8).cell 3
            have q0 := (HXZ.out.up hu8).cell 0
            have q1 := (HXZ.out.up hu8).cell 1
            have q2 := (HXZ.out.up hu8).cell 2
            have q3 := (HXZ.out.up hu8).cell 3
            have v0 := (HYZ.out.up hu8).cell 0
            have v1 := (HYZ.out.up hu8).cell 1
            have v2 := (HYZ.out.up hu8).cell 2
            have v3 := (HYZ.out.up hu8).cell 3
            simp only [List.getElem?_toArray, List.getElem?_cons_succ, List.getElem?_cons_zero] at p0 p1 p2 p3 q0 q1 q2 q3 v0 v1 v2 v3
            have HSM := Lib.hid (frmSame_calls a1 a2 a3 Bz dz a4 k1 e1 a3 B1 d1 l1 w8 (HRZ.out.up hu8) (HRXZ.out.up hu8))
            generalize decide (a1 = k1 ∧ a2 = e1 ∧ a3 = a3 ∧ a4 = l1) = D at HSM
            go_wp2_with fail
            refine (HSM.out).mono ?_
            rintro en w9 ⟨rfl, hu9⟩
            have HU9 := Lib.hid ((HUZ.out.trans hu8).trans hu9)
            cases D
            · have HSN := Lib.hid (frmSame_calls a1 a2 a3 Bz dz a4 a1 a2 a3 B2 d2 a4 w9 ((HRZ.out.up hu8).up hu9) ((HRYZ.out.up hu8).up hu9))
              rw [decide_eq_true (⟨rfl, rfl, rfl, rfl⟩ : a1 = a1 ∧ a2 = a2 ∧ a3 = a3 ∧ a4 = a4)] at HSN
              replace p0 := hu9.cell p0
              replace p1 := hu9.cell p1
              replace p2 := hu9.cell p2
              replace p3 := hu9.cell p3
              replace v0 := hu9.cell v0
              replace v1 := hu9.cell v1
              replace v2 := hu9.cell v2
              replace v3 := hu9.cell v3
              clear q0 q1 q2 q3
              go_wp2_with fail
              refine (HSN.out).mono ?_
              rintro en w10 ⟨rfl, hu10⟩
              go_wp2_with fail
              go_ret
              exact ⟨rfl, HU9.out.trans hu10⟩
            · go_wp2_with fail
              go_ret
              exact ⟨rfl, HU9.out⟩
      · have hcn : (f2 != 0) = true := by simp [hz2]
        clear hz2
        go_wp2_with fail
        refine (frmKnown_calls _).mono ?_
        rintro en w8 ⟨rfl, hu8⟩
        go_wp2_with fail
        go_ret
        exact ⟨rfl, HU5.out.trans hu8⟩
    · have hcn : (f1 != 0) = true := by simp [hz1]
      clear hz1
      go_wp2_with fail
      refine (frmKnown_calls _).mono ?_
      rintro en w8 ⟨rfl, hu8⟩
      go_wp2_with fail
      go_ret
      exact ⟨rfl, HU5.out.trans hu8⟩
end Go.Proofs.Ytehdigkjbobndaa
