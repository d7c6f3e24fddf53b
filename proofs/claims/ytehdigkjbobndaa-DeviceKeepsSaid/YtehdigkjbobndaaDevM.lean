/- Layer 3: a device's small methods. -/
import Derived.Test.YtehdigkjbobndaaDev
namespace Go.Proofs.Ytehdigkjbobndaa
open Go.RowKit
set_option maxRecDepth 100000

theorem atomAdd_calls (a : Addr) (x : Int) (w : World) (hc : w.cell? a = some (.int .i64 x)) (hz : w.frozen? a = false) (h0 : 0 ≤ x) (h1 : x < 4611686018427387904) :
    Calls Try.prog 55 #[.pointer (some a), .int .i64 1] w fun e w' => e = .returned (.int .i64 (x + 1)) ∧ w' = w.setCell a (.int .i64 (x + 1)) := by
  have hs : (Op.intArith .add .i64 x 1).run Try.prog w = .ok (.int .i64 (x + 1)) w := by
    simp only [go_sem]
    rw [IntKind.wrap_i64, show ((x + 1 + 9223372036854775808) % 18446744073709551616 - 9223372036854775808) = x + 1 by omega]
    rfl
  have hadd := run_call_add (P := Try.prog) Try.func72 (by kernel_rfl) (by kernel_rfl) (by kernel_rfl) .i64 (by kernel_rfl) (y := 1) (s := x + 1) hc hz hs
  go_enter Try.func55, Try.ntmps55
  go_wp2_with fail
  go_ret
  exact ⟨rfl, rfl⟩
theorem atomLoad_calls (a : Addr) (x : Int) (w : World) (hc : w.cell? a = some (.int .i64 x)) :
    Calls Try.prog 61 #[.pointer (some a)] w fun e w' => e = .returned (.int .i64 x) ∧ w' = w := by
  have hl := run_call_load (P := Try.prog) Try.func73 (by kernel_rfl) (by kernel_rfl) (by kernel_rfl) .i64 (by kernel_rfl) hc
  go_enter Try.func61, Try.ntmps61
  go_wp2_with fail
  go_ret
  exact ⟨rfl, rfl⟩
theorem devOn_calls (g : Nat) (S : Nat → Prop) (s : DSt) (w : World) (h : DevI w g S s) :
    Calls Try.prog 25 #[.pointer (some ⟨g, 0, none⟩)] w fun e w' => e = .returned (.bool (!s.off)) ∧ w' = w := by
  obtain ⟨gl, cap, bm, n, f, h⟩ := h.out
  have g0 : w.cell? ⟨g, 0, none⟩ = some (.bool s.off) := h.b.cell 0
  have hnot : ∀ (x : Bool) (w : World), (Op.unary .not (.bool x)).run Try.prog w = .ok (.bool (!x)) w := fun _ _ => rfl
  clear h
  go_enter Try.func25, Try.ntmps25
  go_wp2_with fail
  go_ret
  exact ⟨rfl, rfl⟩
theorem devPages_calls (g : Nat) (S : Nat → Prop) (s : DSt) (w : World) (h : DevI w g S s) :
    Calls Try.prog 14 #[.pointer (some ⟨g, 0, none⟩)] w fun e w' => e = .returned (.int .i64 s.pg.length) ∧ w' = w := by
  have hm := h.ok.most
  obtain ⟨gl, cap, bm, n, f, h⟩ := h.out
  have g6 : w.cell? ⟨g, 6, none⟩ = some (.slice (some ⟨gl, 0, none⟩) (256 * s.pg.length) cap) := h.b.cell 6
  clear h
  generalize s.pg.length = m at *
  go_enter Try.func14, Try.ntmps14
  go_wp2_with fail
  go_ret
  exact ⟨rfl, rfl⟩
/-- What is wrong with a page's number. -/
def devErr (s : DSt) (no : Int) : Int := if s.off then 9 else if no < 0 ∨ (s.pg.length : Int) ≤ no then 10 else 0
theorem devCheck_calls (g : Nat) (S : Nat → Prop) (s : DSt) (no : Int) (w : World) (h : DevI w g S s) :
    Calls Try.prog 54 #[.pointer (some ⟨g, 0, none⟩), .int .i64 no] w fun e w' => e = .returned (.int .i64 (devErr s no)) ∧ w' = w := by
  have H1 := Lib.hid (devOn_calls g S s w h)
  have H2 := Lib.hid (devPages_calls g S s w h)
  have hnot : ∀ (x : Bool) (w : World), (Op.unary .not (.bool x)).run Try.prog w = .ok (.bool (!x)) w := fun _ _ => rfl
  clear h
  unfold devErr
  generalize s.off = off at *
  cases off with
  | true =>
    go_enter Try.func54, Try.ntmps54
    go_wp2_with fail
    refine (H1.out).mono ?_
    rintro en w1 ⟨rfl, rfl⟩
    go_wp2_with fail
    go_ret
    exact ⟨rfl, rfl⟩
  | false =>
    generalize s.pg.length = m at *
    by_cases hn : no < 0
    · go_enter Try.func54, Try.ntmps54
      go_wp2_with fail
      refine (H1.out).mono ?_
      rintro en w1 ⟨rfl, rfl⟩
      go_wp2_with fail
      go_ret
      exact ⟨by simp, rfl⟩
    · have hn0 : decide (no < 0) = false := decide_eq_false hn
      have hn1 : 0 ≤ no := by omega
      by_cases hm : (m : Int) ≤ no
      · clear hn
        go_enter Try.func54, Try.ntmps54
        go_wp2_with fail
        refine (H1.out).mono ?_
        rintro en w1 ⟨rfl, rfl⟩
        go_wp2_with fail
        refine (H2.out).mono ?_
        rintro en w1 ⟨rfl, rfl⟩
        go_wp2_with fail
        go_ret
        exact ⟨by simp, rfl⟩
      · have hm0 : decide ((m : Int) ≤ no) = false := decide_eq_false hm
        have hm1 : no < (m : Int) := by omega
        go_enter Try.func54, Try.ntmps54
        go_wp2_with fail
        refine (H1.out).mono ?_
        rintro en w1 ⟨rfl, rfl⟩
        go_wp2_with fail
        refine (H2.out).mono ?_
        rintro en w1 ⟨rfl, rfl⟩
        go_wp2_with fail
        go_ret
        exact ⟨by simp, rfl⟩

/-- A write or a sync is used up. -/
def useOk (s : DSt) : Bool := !(s.armed && decide (s.left = 0))
def useS (s : DSt) : DSt := if useOk s then { s with left := wrap64 (s.left - 1) } else { s with off := true }
theorem wrap64_k (x : Int) : InK .i64 (wrap64 x) := InK.of_i64 (by unfold wrap64; omega) (by unfold wrap64; omega)
theorem powUse_calls (g : Nat) (S : Nat → Prop) (s : DSt) (gl cap bm n : Nat) (f : Int → Option Value) (w : World) (h : DevX w g S s gl cap bm n f) :
    Calls Try.prog 57 #[.pointer (some ⟨g, 0, none⟩)] w fun e w' => e = .returned (.bool (useOk s)) ∧ DevX w' g S (useS s) gl cap bm n f ∧ UpX (fun b => b = g) w w' := by
  have g1 : w.cell? ⟨g, 1, none⟩ = some (.bool s.armed) := h.b.cell 1
  have g2 : w.cell? ⟨g, 2, none⟩ = some (.int .i64 s.left) := h.b.cell 2
  have g0 : w.cell? ⟨g, 0, none⟩ = some (.bool s.off) := h.b.cell 0
  have f0 := h.b.frozen 0
  have f2 := h.b.frozen 2
  have H1 := Lib.hid fun x => h.b.set 2 (.int .i64 x)
  have H2 := Lib.hid (h.b.set 0 (.bool true))
  have H3 := Lib.hid (fun w' s' hu hb hp hw hwr hl => h.cells (w' := w') (s' := s') hu hb hp hw hwr hl)
  have hl := h.ok.left
  clear h
  have e1 : ∀ x, wrap64 (x - 1) = wrap64 (x - 1) := fun _ => rfl
  obtain ⟨off, armed, left, rd, wr, sy, pg, wt⟩ := s
  simp only at *
  cases armed with
  | false =>
    go_enter Try.func57, Try.ntmps57
    go_wp2_with fail
    go_ret
    refine ⟨by simp [useOk], ?_, UpX.one _ _ _ _⟩
    rw [show useS ⟨off, false, left, rd, wr, sy, pg, wt⟩ = ⟨off, false, wrap64 (left - 1), rd, wr, sy, pg, wt⟩ by simp [useS, useOk]]
    exact H3.out _ _ (UpX.one _ _ _ _) (H1.out _) rfl rfl (Nat.le_refl _) (wrap64_k _)
  | true =>
    by_cases hz : left = 0
    · subst hz
      go_enter Try.func57, Try.ntmps57
      go_wp2_with fail
      go_ret
      refine ⟨by simp [useOk], ?_, UpX.one _ _ _ _⟩
      rw [show useS ⟨off, true, 0, rd, wr, sy, pg, wt⟩ = ⟨true, true, 0, rd, wr, sy, pg, wt⟩ by simp [useS, useOk]]
      exact H3.out _ _ (UpX.one _ _ _ _) H2.out rfl rfl (Nat.le_refl _) hl
    · have hz1 : (left == 0) = false := by simp [hz]
      go_enter Try.func57, Try.ntmps57
      go_wp2_with fail
      go_ret
      refine ⟨by simp [useOk, hz], ?_, UpX.one _ _ _ _⟩
      rw [show useS ⟨off, true, left, rd, wr, sy, pg, wt⟩ = ⟨off, true, wrap64 (left - 1), rd, wr, sy, pg, wt⟩ by simp [useS, useOk, hz]]
      exact H3.out _ _ (UpX.one _ _ _ _) (H1.out _) rfl rfl (Nat.le_refl _) (wrap64_k _)
theorem DevX.cap {w : World} {g : Nat} {S : Nat → Prop} {s : DSt} {gl cap bm n : Nat} {f : Int → Option Value} (h : DevX w g S s gl cap bm n f) : 256 * s.pg.length ≤ cap := by
  obtain ⟨A, c, e, hr⟩ := h.laid.rd
  have hl := flatten_len h.ok.len
  have := hr.le
  injection e with _ _ e3
  subst e3
  omega
/-- Where a page lies. -/
theorem devPage_calls (g : Nat) (S : Nat → Prop) (s : DSt) (gl cap bm n : Nat) (f : Int → Option Value) (no : Nat) (w : World) (h : DevX w g S s gl cap bm n f) (hn : no < s.pg.length) :
    Calls Try.prog 56 #[.pointer (some ⟨g, 0, none⟩), .int .i64 no] w fun e w' => e = .returned (.slice (some ⟨gl, 256 * no, none⟩) 256 (cap - 256 * no)) ∧ w' = w := by
  have hcap := h.cap
  have hm := h.ok.most
  have g6 : w.cell? ⟨g, 6, none⟩ = some (.slice (some ⟨gl, 0, none⟩) (256 * s.pg.length) cap) := h.b.cell 6
  clear h
  generalize s.pg.length = m at *
  have hlt : 256 * (no + 1) ≤ cap := by omega
  go_enter Try.func56, Try.ntmps56
  go_wp2_with fail
  go_ret
  refine ⟨?_, rfl⟩
  rw [show 256 * (no + 1) - 256 * no = 256 by omega]
  rfl
/-- Its counts. -/
theorem devCounts_calls (g : Nat) (S : Nat → Prop) (s : DSt) (w : World) (h : DevI w g S s) :
    Calls Try.prog 33 #[.pointer (some ⟨g, 0, none⟩)] w fun e w' => e = .returned (.tuple #[.int .i64 s.rd, .int .i64 s.wr, .int .i64 s.sy]) ∧ Qt w w' := by
  obtain ⟨gl, cap, bm, n, f, h⟩ := h.out
  have g3 : w.cell? ⟨g, 3, none⟩ = some (.int .i64 s.rd) := h.b.cell 3
  have g4 : w.cell? ⟨g, 4, none⟩ = some (.int .i64 s.wr) := h.b.cell 4
  have g5 : w.cell? ⟨g, 5, none⟩ = some (.int .i64 s.sy) := h.b.cell 5
  clear h
  go_enter Try.func33, Try.ntmps33
  go_wp2_with fail
  refine wp_region_tree (fun w' => Up w w') (.quiet 0 (.quiet 1 (.quiet 2 (.quiet 3 (.quiet 5 (.quiet 6 (.quiet 7 (.quiet 8 (.quiet 10 (.quiet 11 (.quiet 12 (.quiet 13 (.alt 4 (.alt 9 (.alt 14 (.quiet 15 (.quiet 16 (.quiet 17 (.nil)))) (.stop)) (.stop)) (.stop)))))))))))))) (by kernel_rfl) (by kernel_rfl) rfl (by kernel_rfl) (by kernel_rfl) ((Up.refl w).drew) ?_
  simp only [pickT, List.getElem?_cons_succ, List.getElem?_cons_zero, Option.getD_some]
  repeat (refine tree_step rfl (fun K hK => ?_); go_big_quiet_step ((intro _; rfl)); refine wpQuiet_nil (hK _ ?_); clear hK K)
  refine tree_do (fun K hK => ?_)
  go_wp2_with fail
  refine (atomLoad_calls ⟨g, 3, none⟩ s.rd w.drew g3).mono ?_
  rintro en w1 ⟨rfl, rfl⟩
  go_wp2_with fail
  refine ⟨(Up.refl w).drew, ?_⟩
  repeat (refine tree_step rfl (fun K hK => ?_); go_big_quiet_step ((intro _; rfl)); refine wpQuiet_nil (hK _ ?_); clear hK K)
  refine tree_do (fun K hK => ?_)
  go_wp2_with fail
  refine (atomLoad_calls ⟨g, 4, none⟩ s.wr w.drew g4).mono ?_
  rintro en w1 ⟨rfl, rfl⟩
  go_wp2_with fail
  refine ⟨(Up.refl w).drew, ?_⟩
  repeat (refine tree_step rfl (fun K hK => ?_); go_big_quiet_step ((intro _; rfl)); refine wpQuiet_nil (hK _ ?_); clear hK K)
  refine tree_do (fun K hK => ?_)
  go_wp2_with fail
  refine (atomLoad_calls ⟨g, 5, none⟩ s.sy w.drew g5).mono ?_
  rintro en w1 ⟨rfl, rfl⟩
  go_wp2_with fail
  refine ⟨(Up.refl w).drew, ?_⟩
  repeat (refine tree_step rfl (fun K hK => ?_); go_big_quiet_step ((intro _; rfl)); refine wpQuiet_nil (hK _ ?_); clear hK K)
  refine tree_nil ?_
  go_wp2_with fail
  go_ret3
  exact ⟨rfl, (Qt.refl w).drewN 1⟩
theorem powArm_calls (g : Nat) (S : Nat → Prop) (s : DSt) (gl cap bm n : Nat) (f : Int → Option Value) (x : Int) (w : World) (h : DevX w g S s gl cap bm n f) (hx : InK .i64 x) :
    Calls Try.prog 60 #[.pointer (some ⟨g, 0, none⟩), .int .i64 x] w fun e w' => e = .returned (.tuple #[]) ∧ DevX w' g S { s with armed := decide (0 ≤ x), left := x } gl cap bm n f ∧ UpX (fun b => b = g) w w' := by
  have g1 : w.cell? ⟨g, 1, none⟩ = some (.bool s.armed) := h.b.cell 1
  have g2 : w.cell? ⟨g, 2, none⟩ = some (.int .i64 s.left) := h.b.cell 2
  have f1 := h.b.frozen 1
  have f2 := h.b.frozen 2
  have H1 := Lib.hid fun x => h.b.set 2 (.int .i64 x)
  have H3 := Lib.hid (fun w' s' hu hb hp hw hwr hl => h.cells (w' := w') (s' := s') hu hb hp hw hwr hl)
  have HB := Lib.hid ((h.b.set 1 (.bool (decide (0 ≤ x)))).set 2 (.int .i64 x))
  clear h
  go_enter Try.func60, Try.ntmps60
  go_wp2_with fail
  refine bodyPost_end (results_none rfl _ _ _) rfl ?_
  have hu : UpX (fun b => b = g) w ((w.setCell ⟨g, 1, none⟩ (.bool (decide (0 ≤ x)))).setCell ⟨g, 2, none⟩ (.int .i64 x)) := (UpX.one w g 1 _).trans (UpX.one _ g 2 _)
  exact ⟨rfl, H3.out _ { s with armed := decide (0 ≤ x), left := x } hu HB.out rfl rfl (Nat.le_refl _) hx, hu⟩
/-- Its map, looked into, in a region that draws its order. -/
theorem tree_lookup {P : Program} {ops : Array Oper} {C : World → Prop} {Q : Act → World → Prop} {dst : Option Tmp} {ty : TypeId} {pos : String} {after : Array Edge} {guard : Option (Nat × Bool)}
    {t : TypeId} {m x : Operand} {r : Tree Oper} {a : Act} {w : World} (bm : Nat) (key : Int) (v : Value)
    (hg : Region.wanted { dst := dst, op := .lookup t m x false, type := ty, pos := pos, after := after, guard := guard } (yielded ops a.tmps) = true) (hm : a.eval m = .map (some bm)) (hx : a.eval x = .int .i64 key)
    (hv : ∀ w', C w' → (Instr.lookup t (.map (some bm)) (.int .i64 key) false).run P w' = .ok v w')
    (h : wpTree P ops C Q r (a.put dst v) w) :
    wpTree P ops C Q (.quiet { dst := dst, op := .lookup t m x false, type := ty, pos := pos, after := after, guard := guard } r) a w := by
  refine ⟨_, .inl ⟨hg, fun w' hw => ?_⟩, h⟩
  simp only [execOp, hx, hm]
  simp [hv w' hw, Result.andThen]
end Go.Proofs.Ytehdigkjbobndaa
