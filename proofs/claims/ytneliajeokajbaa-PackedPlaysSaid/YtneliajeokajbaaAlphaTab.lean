/- Layer 14: the table: made. -/
import Derived.Test.YtneliajeokajbaaAlpha1
import Derived.Test.YtneliajeokajbaaPiT
import Derived.Test.YtneliajeokajbaaBase2
import Derived.Test.YtneliajeokajbaaOwnL
import Derived.Test.YtneliajeokajbaaVarKnown
namespace Go.Proofs.Ytneliajeokajbaa
open Go.RowKit
set_option maxRecDepth 100000

/-- How many are ahead of each. -/
def sums (l : List Int) : List Int := (List.range (l.length + 1)).map fun i => (l.take i).sum
theorem sums_len (l : List Int) : (sums l).length = l.length + 1 := by simp [sums]
theorem sums_get (l : List Int) (i : Nat) (h : i ≤ l.length) : (sums l).getD i 0 = (l.take i).sum := by
  simp [sums, List.getD_eq_getElem?_getD, List.getElem?_map, List.getElem?_range (show i < l.length + 1 by omega)]
theorem sums_snoc (l : List Int) (x : Int) : sums (l ++ [x]) = sums l ++ [l.sum + x] := by
  unfold sums
  rw [List.length_append, List.length_singleton, List.range_succ, List.map_append]
  congr 1
  · refine List.map_congr_left fun i hi => ?_
    rw [List.take_append_of_le_length (by have := List.mem_range.1 hi; omega)]
  · simp [List.take_of_length_le]
theorem sum_nonneg (l : List Int) (h : ∀ x ∈ l, 0 ≤ x) : 0 ≤ l.sum := by
  induction l with
  | nil => simp
  | cons y t ih =>
    have := h y (by simp)
    have := ih fun x hx => h x (by simp [hx])
    simp
    omega
theorem sum_take_le (l : List Int) (h : ∀ x ∈ l, 0 ≤ x) (k : Nat) : 0 ≤ (l.take k).sum ∧ (l.take k).sum ≤ l.sum := by
  have h1 := sum_nonneg (l.take k) fun x hx => h x (List.mem_of_mem_take hx)
  have h2 := sum_nonneg (l.drop k) fun x hx => h x (List.mem_of_mem_drop hx)
  have h3 : l.sum = (l.take k).sum + (l.drop k).sum := by rw [← List.sum_append, List.take_append_drop]
  omega

/-- A table at a pointer: its symbols, how often each is, how many are below. -/
structure Tab (w : World) (p : Value) (sy ct be : List Int) : Prop where mk ::
  out : ∃ g A1 c1 A2 c2 A3 c3, p = .pointer (some ⟨g, 0, none⟩) ∧ Blk w g 112 #[.slice A1 sy.length c1, .slice A2 ct.length c2, .slice A3 be.length c3] ∧ Rd w .i64 A1 c1 sy ∧ Rd w .i64 A2 c2 ct ∧ Rd w .i64 A3 c3 be
theorem Tab.up {w w' : World} {p : Value} {sy ct be : List Int} (h : Tab w p sy ct be) (hu : Up w w') : Tab w' p sy ct be := by
  obtain ⟨g, A1, c1, A2, c2, A3, c3, e, hb, h1, h2, h3⟩ := h.out
  exact ⟨g, A1, c1, A2, c2, A3, c3, e, hb.up hu, h1.up hu, h2.up hu, h3.up hu⟩

set_option maxHeartbeats 2000000 in
theorem alphaMade_calls (A B : Option Addr) (c d : Nat) (sy ct : List Int) (w : World) (h1 : Rd w .i64 A c sy) (h2 : Rd w .i64 B d ct) (hp : ∀ x ∈ ct, 0 ≤ x) (hs : ct.sum ≤ 65536) (hcl : ct.length ≤ 65536) :
    Calls Try.prog 78 #[.slice A sy.length c, .slice B ct.length d] w fun e w' => ∃ p, e = .returned p ∧ Tab w' p sy ct (sums ct) ∧ Up w w' := by
  have HP := Lib.hid hp
  have HSM := Lib.hid hs
  clear hp hs
  have hol : Own (w.alloc (.cells #[.int .i64 0] 3)) w.heap.size 3 .i64 (.slice (some ⟨w.heap.size, 0, none⟩) 1 1) [0] := Own.lit w _ _ _ [0] (Nat.le_refl _) (by simp) (by simp; exact InK.of_i64 (by omega) (by omega)) 1 rfl _ rfl
  have hu0 : Up w (w.alloc (.cells #[.int .i64 0] 3)) := (Up.refl _).alloc _
  generalize hw1 : w.alloc (.cells #[.int .i64 0] 3) = w1 at *
  have HW1 := Lib.hid hw1
  clear hw1
  go_enter Try.func78, Try.ntmps78
  go_wp2_with fail
  rw [HW1.out]
  have hsz1 : w1.heap.size = w.heap.size + 1 := by rw [← HW1.out]; simp
  rw [show w.heap.size + 1 = w1.heap.size from hsz1.symm]
  have HSZ := Lib.hid hsz1
  clear hsz1
  go_loopw [6, 7, 15] (fun _ _ i wr => ∃ (k : Nat) (v : Value), k ≤ ct.length ∧ i = .int .i64 k ∧ Blk wr w1.heap.size 112 #[.slice A sy.length c, .slice B ct.length d, v] ∧ Own wr w.heap.size 3 .i64 v (sums (ct.take k)) ∧ Up w wr) (fun _ _ i _ => ct.length - (intOf i).toNat)
  case atStart => exact ⟨0, _, by omega, rfl, Blk.new _ _ _, by simpa [sums] using hol.up ((Up.refl w1).alloc _), hu0.alloc _⟩
  case round =>
    obtain ⟨k, v, hk, rfl, hb, hv, hu⟩ := hrel
    by_cases hlt : k < ct.length
    · obtain ⟨ad, x, rfl, hc, HX, _⟩ := h2.get k hlt
      have hc' := hu.cell hc
      have HT := Lib.hid (show sums (ct.take (k + 1)) = sums (ct.take k) ++ [(ct.take k).sum + x] by rw [take_succ_getD ct k 0 hlt, HX.out, sums_snoc])
      have HG := Lib.hid (show (sums (ct.take k)).getD k 0 = (ct.take k).sum by rw [sums_get _ _ (by rw [List.length_take]; omega)]; rw [List.take_take, Nat.min_self])
      have HL := Lib.hid (show (sums (ct.take k)).length = k + 1 by rw [sums_len, List.length_take]; omega)
      have h3 := sum_take_le ct HP.out k
      have h4 := sum_take_le ct HP.out (k + 1)
      have h5 : (ct.take (k + 1)).sum = (ct.take k).sum + x := by rw [take_succ_getD ct k 0 hlt, HX.out, List.sum_append]; simp
      have hx0 : 0 ≤ x := by
        have := HX.out
        rw [List.getD_eq_getElem?_getD, List.getElem?_eq_getElem hlt] at this
        simp only [Option.getD_some] at this
        rw [← this]
        exact HP.out _ (List.getElem_mem hlt)
      have h6 := HSM.out
      have h7 : (ct.take k).sum + x ≤ 65536 := by omega
      obtain ⟨B3, d3, rfl, hr3⟩ := hv.rd
      obtain ⟨ad3, y, rfl, hc3, HY, _⟩ := hr3.get k (by rw [HL.out]; omega)
      rw [HG.out] at HY
      rw [HL.out] at hb hv
      generalize hS : sums (ct.take k) = S at *
      generalize hs : (ct.take k).sum = s at *
      have hys : y = s := HY.out.symm
      subst hys
      clear hS hs HY HG HX h4 h5
      have hg2 : wr.cell? ⟨w1.heap.size, 2, none⟩ = some (.slice (some ad3) (k + 1) d3) := hb.cell 2
      have hf2 := hb.frozen 2
      go_wp2_with fail
      refine wp_region_tree (Cells [(⟨w1.heap.size, 2, none⟩, .slice (some ad3) (k + 1) d3), (ad3.add k, .int .i64 y)]) (.quiet 0 (.quiet 1 (.quiet 2 (.quiet 3 (.quiet 4 (.quiet 5 (.quiet 6 (.quiet 7 (.quiet 8 (.quiet 9 (.quiet 10 (.quiet 11 (.quiet 12 (.quiet 13 (.alt 14 (.alt 15 (.quiet 16 (.quiet 17 (.alt 18 (.nil) (.stop)))) (.stop)) (.stop)))))))))))))))) (by kernel_rfl) (by kernel_rfl) rfl (by kernel_rfl) (by kernel_rfl) (Cells.cons hg2 (Cells.cons hc3 (Cells.nil _))) ?_
      simp only [pickT, List.getElem?_cons_succ, List.getElem?_cons_zero, Option.getD_some]
      repeat (refine tree_step rfl (fun K hK => ?_); go_big_quiet_step ((intro _; rfl)); refine wpQuiet_nil (hK _ ?_); clear hK K)
      refine tree_load ⟨w1.heap.size, 2, none⟩ (.slice (some ad3) (k + 1) d3) (by kernel_rfl) rfl (by kernel_rfl) (fun w' h => h.head) ?_
      dsimp only [Act.put]
      simp only [List.setIfInBounds_toArray, List.set_cons_zero, List.set_cons_succ]
      repeat (refine tree_step rfl (fun K hK => ?_); go_big_quiet_step ((intro _; rfl)); refine wpQuiet_nil (hK _ ?_); clear hK K)
      refine tree_load ⟨w1.heap.size, 2, none⟩ (.slice (some ad3) (k + 1) d3) (by kernel_rfl) rfl (by kernel_rfl) (fun w' h => h.head) ?_
      dsimp only [Act.put]
      simp only [List.setIfInBounds_toArray, List.set_cons_zero, List.set_cons_succ]
      repeat (refine tree_step rfl (fun K hK => ?_); go_big_quiet_step ((intro _; rfl)); refine wpQuiet_nil (hK _ ?_); clear hK K)
      refine tree_load (ad3.add k) (.int .i64 y) (by kernel_rfl) rfl (by kernel_rfl) (fun w' h => h.tail.head) ?_
      dsimp only [Act.put]
      simp only [List.setIfInBounds_toArray, List.set_cons_zero, List.set_cons_succ]
      repeat (refine tree_step rfl (fun K hK => ?_); go_big_quiet_step ((intro _; rfl)); refine wpQuiet_nil (hK _ ?_); clear hK K)
      refine tree_do (fun K hK => ?_)
      have hi : InK .i64 (y + x) := InK.of_i64 (by omega) (by omega)
      go_wp2_with fail
      have hA : Up wr (wr.alloc (.cells #[.int .i64 (y + x)] 3)).drew := ((Up.refl _).alloc _).drew
      have hrO := (rd_one wr .i64 3 (y + x) hi).up ((Up.refl _).drew)
      have hfr : ∀ b, (Value.slice (some ad3) (k + 1) d3).ownBlock = some b → b < wr.heap.size := fun b h => (hv.lt b h).2
      generalize (wr.alloc (.cells #[.int .i64 (y + x)] 3)).drew = wA at *
      refine ⟨Cells.cons (hA.cell hg2) (Cells.cons (hA.cell hc3) (Cells.nil _)), ?_⟩
      refine tree_do (fun K hK => ?_)
      go_wp2_with (refine wpl_append2 (t := 23) w.heap.size 3 .i64 8 Try.underlying23 infoInt _ S rfl (hv.up hA) ⟨wr.heap.size, 0, none⟩ 1 1 [y + x] rfl rfl hrO (by have := HL.out; simp; omega) (by decide) (hu.trans hA).size ?_; intro v3 w3 hv3 hu3 hn3)
      have hne : ¬ (Value.slice (some ad3) (k + 1) d3).ownBlock = some w1.heap.size := fun e => by
        have h1 := hv.typed _ e
        have h2 : Typed wr 112 w1.heap.size := ⟨_, _, hb.out⟩
        exact absurd (h1.ne h2) (by decide)
      have hb3 := (hb.up hA).upx hu3 hne
      have hr3' := hn3.rd (hv.up hA) hv3 rfl
      obtain ⟨B9, d9, rfl, hr9⟩ := hv3.rd
      rw [List.length_append, List.length_singleton] at hv3 hn3
      have hU3 : Up w w3 := (hu.trans hA).thenx hu3 fun i hi e => by have := (hv.lt i e).1; omega
      have hc3' : w3.cell? (ad3.add k) = some (.int .i64 y) := by
        rw [hr3'.cell ad3 rfl k (by rw [HL.out]; omega)]
        congr 2
        have := hr3.cell ad3 rfl k (by rw [HL.out]; omega)
        rw [hc3] at this
        simp only [Option.some.injEq, Value.int.injEq] at this
        exact this.2.symm
      have hg3 : w3.cell? ⟨w1.heap.size, 2, none⟩ = some (.slice (some ad3) (k + 1) d3) := hb3.cell 2
      have hf3 := hb3.frozen 2
      refine ⟨Cells.cons hg3 (Cells.cons hc3' (Cells.nil _)), ?_⟩
      dsimp only [Act.put]
      simp only [List.setIfInBounds_toArray, List.set_cons_zero, List.set_cons_succ]
      repeat (refine tree_step rfl (fun K hK => ?_); go_big_quiet_step ((intro _; rfl)); refine wpQuiet_nil (hK _ ?_); clear hK K)
      refine tree_do (fun K hK => ?_)
      go_wp2_with fail
      have hx4 : UpX (fun b => b = w1.heap.size) w3 (w3.setCell ⟨w1.heap.size, 2, none⟩ (.slice B9 (S.length + 1) d9)) := UpX.one _ _ _ _
      refine ⟨trivial, ?_⟩
      refine tree_nil ?_
      go_wp2_with fail
      go_roundw
      case rel =>
        refine ⟨k + 1, _, by omega, by simp, hb3.set 2 _, ?_, hU3.thenx hx4 fun i hi e => by have := HSZ.out; omega⟩
        rw [HT.out]
        exact hv3.upx hx4 fun b hbb e => by
          have h1 := hv3.typed _ hbb
          rw [e] at h1
          have h2 : Typed w3 112 w1.heap.size := ⟨_, _, hb3.out⟩
          exact absurd (h1.ne h2) (by decide)
      case measure => simp [intOf]; omega
    · have hke : k = ct.length := by omega
      subst hke
      rw [List.take_length] at hv
      obtain ⟨B3, d3, rfl, hr3⟩ := hv.rd
      go_wp2_with fail
      go_ret
      exact ⟨_, rfl, ⟨w1.heap.size, A, c, B, d, B3, d3, rfl, hb, h1.up hu, h2.up hu, hr3⟩, hu⟩
end Go.Proofs.Ytneliajeokajbaa
