/- The walk of suffix.kinds. -/
import Derived.Test.YtmmacpicbonhhaaIndP
namespace Go.Proofs.Ytmmacpicbonhhaa
open Go.RowKit
set_option maxRecDepth 100000

/-- Which places are of kind S, as the code reckons it. -/
def kdH (a : Int) (t : List Bool) : List Int → Bool
  | [] => true
  | b :: _ => decide (a < b) || decide (a = b) && t.headD false
def kdL : List Int → List Bool
  | [] => []
  | a :: r => kdH a (kdL r) r :: kdL r
theorem kdL_len : ∀ x : List Int, (kdL x).length = x.length
  | [] => rfl
  | a :: r => by rw [kdL, List.length_cons, List.length_cons, kdL_len r]
/-- Truths in cells. -/
def cellsB (l : List Bool) : Array Value := (l.map Value.bool).toArray
theorem cellsB_get (l : List Bool) (i : Nat) (h : i < l.length) : (cellsB l)[i]? = some (.bool (l.getD i false)) := by
  simp [cellsB, List.getD_eq_getElem?_getD, h]
theorem cellsB_set (l : List Bool) (i : Nat) (v : Bool) : (cellsB l).setIfInBounds i (.bool v) = cellsB (l.set i v) := by
  unfold cellsB
  simp [List.map_set]
/-- The places from i on are told. -/
def kdO (x : List Int) (i : Nat) : List Bool := List.replicate i false ++ kdL (x.drop i)
theorem kdO_len (x : List Int) (i : Nat) (h : i ≤ x.length) : (kdO x i).length = x.length := by
  unfold kdO
  rw [List.length_append, List.length_replicate, kdL_len, List.length_drop]
  omega
theorem kdO_zero (x : List Int) : kdO x 0 = kdL x := rfl
theorem kdO_all (x : List Int) : kdO x x.length = List.replicate x.length false := by
  unfold kdO
  rw [List.drop_length]
  simp [kdL]
theorem kdO_get (x : List Int) (i : Nat) (_ : i < x.length) : (kdO x i).getD i false = (kdL (x.drop i)).headD false := by
  unfold kdO
  rw [List.getD_eq_getElem?_getD, List.getElem?_append_right (by simp)]
  simp
  cases kdL (x.drop i) <;> rfl
theorem kdO_step (x : List Int) (i : Nat) (h : i < x.length) (v : Bool) (hv : v = (if i + 1 = x.length then true else decide (x.getD i 0 < x.getD (i + 1) 0) || decide (x.getD i 0 = x.getD (i + 1) 0) && (kdO x (i + 1)).getD (i + 1) false)) : kdO x i = (kdO x (i + 1)).set i v := by
  have e : x.drop i = x.getD i 0 :: x.drop (i + 1) := by
    rw [List.drop_eq_getElem_cons h]
    simp [List.getD_eq_getElem?_getD, h]
  have e2 : kdL (x.drop i) = v :: kdL (x.drop (i + 1)) := by
    rw [e, kdL]
    congr 1
    rw [hv]
    by_cases c : i + 1 = x.length
    · rw [if_pos c, List.drop_of_length_le (by omega)]
      rfl
    · rw [if_neg c, kdO_get x (i + 1) (by omega)]
      have e3 : x.drop (i + 1) = x.getD (i + 1) 0 :: x.drop (i + 1 + 1) := by
        rw [List.drop_eq_getElem_cons (show i + 1 < x.length by omega)]
        simp [List.getD_eq_getElem?_getD, show i + 1 < x.length by omega]
      rw [e3]
      rfl
  show List.replicate i false ++ kdL (x.drop i) = (List.replicate (i + 1) false ++ kdL (x.drop (i + 1))).set i v
  rw [e2, List.replicate_succ', List.append_assoc, List.set_append_right _ _ (by simp)]
  simp
theorem infoBool : (Try.prog.info? 4).map (fun i => (i.zero, i.size, i.bytes)) = some (some (.bool false), 1, 1) := by kernel_rfl
theorem wpl_makeT {P : Program} {w : World} {ops : Array Oper} {rest : List Oper} {a : Act} {Q : Exit → Act → World → Prop} {dst : Option Tmp} {ty : TypeId} {pos : String} {after : Array Edge}
    {x y : Operand} {t : TypeId} (e : Nat) (bytes : Nat) (ht : P.underlying t = some (.slice e)) (hi : (P.info? e).map (fun i => (i.zero, i.size, i.bytes)) = some (some (.bool false), 1, bytes))
    (n : Nat) (hx : a.eval x = .int .i64 (n : Int)) (hy : a.eval y = .int .i64 (n : Int)) (hb : bytes * n ≤ 281474976710656) (hm : n ≤ 281474976710656)
    (h : ∀ w', Blk w' w.heap.size e (cellsB (List.replicate n false)) → Up w w' → w'.heap.size = w.heap.size + 1 → wpList P ops Q rest (a.put dst (.slice (some ⟨w.heap.size, 0, none⟩) n n)) w') :
    wpList P ops Q ({ dst := dst, op := .makeSlice t x y, type := ty, pos := pos, after := after, guard := none } :: rest) a w := by
  refine wpList_plain rfl fun K hK => ?_
  have hr := run_make_row' (P := P) t e (.bool false) bytes ht hi rfl .i64 .i64 n hb (by omega) w
  unfold Oper.wp
  simp only [execOp]
  rw [hx, hy]
  simp only [Sem.run_bind, hr, Result.andThen]
  refine hK _ _ (h _ ?_ ((Up.refl w).alloc _) (by simp))
  rw [show madeCells #[Value.bool false] n = cellsB (List.replicate n false) from Array.ext (by simp [madeCells, cellsB]) fun i h1 h2 => by simp [madeCells, cellsB, Nat.mod_one]]
  exact Blk.new w e _

set_option maxHeartbeats 4000000 in
theorem sufkinds_calls (A : Option Addr) (c : Nat) (x : List Int) (w : World) (h1 : Rd w .i64 A c x) (hl : x.length ≤ 65536) :
    Calls Try.prog 76 #[.slice A x.length c] w fun e w' => ∃ G, e = .returned (.slice (some ⟨G, 0, none⟩) x.length x.length) ∧ w.heap.size ≤ G ∧ Blk w' G 4 (cellsB (kdL x)) ∧ Up w w' := by
  go_enter Try.func76, Try.ntmps76
  go_wp2_with (refine wpl_makeT 4 1 Try.underlying58 infoBool x.length rfl rfl (by omega) (by omega) ?_; intro wn hbn hun hsn)
  have hG : w.heap.size ≤ w.heap.size := Nat.le_refl _
  generalize hGe : w.heap.size = G at hbn hsn
  rw [hGe] at hG
  try rw [hGe]
  have h1n := h1.up hun
  go_loopw [4] (fun i wr => ∃ q : Nat, q ≤ x.length ∧ i = .int .i64 ((q : Int) - 1) ∧ Blk wr G 4 (cellsB (kdO x q)) ∧ Up w wr) (fun i _ => (intOf i + 1).toNat)
  case atStart => exact ⟨x.length, Nat.le_refl _, rfl, by rw [kdO_all]; exact hbn, hun⟩
  case round =>
    obtain ⟨q, hq, rfl, hb, hU⟩ := hrel
    cases q with
    | zero =>
      go_wp2_with fail
      go_ret
      exact ⟨G, rfl, by omega, by rw [← kdO_zero]; exact hb, hU⟩
    | succ j =>
      have hkk : ((j + 1 : Nat) : Int) - 1 = (j : Int) := by omega
      rw [hkk]
      clear hkk
      have hlt : j < x.length := by omega
      obtain ⟨ad, a, rfl, hc, HA, hak⟩ := (h1.up hU).get j hlt
      have HG := Lib.hid (show w.heap.size ≤ G by omega)
      have hfO := hb.frozen j
      have hgO := (hb.cell j).trans (cellsB_get _ j (by rw [kdO_len x (j + 1) (by omega)]; exact hlt))
      generalize (kdO x (j + 1)).getD j false = old at hgO
      have HST := fun v => kdO_step x j hlt v
      rw [HA.out] at HST
      by_cases hA : j + 1 = x.length
      · have HE := Lib.hid (HST true (by rw [if_pos hA]))
        have hbA : ((j : Int) == (x.length : Int) - 1) = true := by simpa using (show (j : Int) = (x.length : Int) - 1 by omega)
        have HB := Lib.hid hb
        have HU := Lib.hid hU
        clear HST hc hb hU
        go_wp2_with fail
        refine wp_region_tree (Cells []) (.quiet 0 (.quiet 1 (.quiet 2 (.quiet 3 (.quiet 4 (.quiet 5 (.quiet 6 (.quiet 7 (.quiet 8 (.quiet 9 (.quiet 10 (.quiet 11 (.quiet 12 (.quiet 13 (.quiet 14 (.quiet 15 (.quiet 16 (.quiet 17 (.quiet 18 (.quiet 19 (.quiet 20 (.quiet 21 (.quiet 22 (.quiet 23 (.quiet 24 (.quiet 25 (.quiet 26 (.quiet 27 (.quiet 28 (.quiet 29 (.quiet 30 (.quiet 31 (.quiet 32 (.quiet 33 (.quiet 34 (.quiet 35 (.quiet 36 (.quiet 37 (.quiet 38 (.alt 39 (.nil) (.stop))))))))))))))))))))))))))))))))))))))))) (by kernel_rfl) (by kernel_rfl) rfl (by kernel_rfl) (by kernel_rfl) (Cells.nil _) ?_
        simp only [pickT, List.getElem?_cons_succ, List.getElem?_cons_zero, Option.getD_some]
        repeat (refine tree_step rfl (fun K hK => ?_); go_big_quiet_step ((intro _; rfl)); refine wpQuiet_nil (hK _ ?_); clear hK K)
        refine tree_do (fun K hK => ?_)
        go_wp2_with fail
        refine ⟨trivial, ?_⟩
        refine tree_nil ?_
        go_wp2_with fail
        refine ⟨⟨j, by omega, by simp, ?_, (HU.out.setCell (by show w.heap.size ≤ G; exact HG.out) _).drew⟩, ?_⟩
        · rw [HE.out, ← cellsB_set]
          exact (HB.out.set j (.bool true)).drew
        · simp [intOf]
      · have hbA : ((j : Int) == (x.length : Int) - 1) = false := by simpa using (show (j : Int) ≠ (x.length : Int) - 1 by omega)
        have hj1 : j + 1 < x.length := by omega
        have hc2 := (h1.up hU).cell ad rfl (j + 1) hj1
        rw [show ad.add (j + 1) = ⟨ad.block, ad.off + (j + 1), none⟩ by unfold Addr.add; rw [if_neg (by omega)]] at hc2
        have hcO := (hb.cell (j + 1)).trans (cellsB_get _ (j + 1) (by rw [kdO_len x (j + 1) (by omega)]; exact hj1))
        generalize hbv : x.getD (j + 1) 0 = b at hc2 HST
        generalize (kdO x (j + 1)).getD (j + 1) false = v at hcO HST
        have HB := Lib.hid hb
        have HU := Lib.hid hU
        have HC := Lib.hid (Cells.cons (w := wr.drew) hc (Cells.cons hc2 (Cells.cons hcO (Cells.nil _))))
        clear hbv
        rcases Int.lt_trichotomy a b with hab | hab | hab
        · have hd1 : decide (a < b) = true := decide_eq_true hab
          have HE := Lib.hid (HST true (by rw [if_neg hA, hd1]; rfl))
          clear HST hc hc2 hcO hb hU
          go_wp2_with fail
          refine wp_region_tree (Cells [(ad.add j, .int .i64 a), (⟨ad.block, ad.off + (j + 1), none⟩, .int .i64 b), (⟨G, j + 1, none⟩, .bool v)]) (.quiet 0 (.quiet 1 (.quiet 2 (.quiet 3 (.quiet 4 (.quiet 5 (.quiet 6 (.quiet 7 (.quiet 8 (.quiet 9 (.quiet 10 (.quiet 11 (.quiet 12 (.quiet 13 (.quiet 14 (.quiet 15 (.quiet 16 (.quiet 17 (.quiet 18 (.quiet 19 (.quiet 20 (.quiet 21 (.quiet 22 (.quiet 23 (.quiet 24 (.quiet 25 (.quiet 26 (.quiet 27 (.quiet 28 (.quiet 29 (.quiet 30 (.quiet 31 (.quiet 32 (.quiet 33 (.quiet 34 (.quiet 35 (.quiet 36 (.quiet 37 (.quiet 38 (.alt 39 (.nil) (.stop))))))))))))))))))))))))))))))))))))))))) (by kernel_rfl) (by kernel_rfl) rfl (by kernel_rfl) (by kernel_rfl) HC.out ?_
          simp only [pickT, List.getElem?_cons_succ, List.getElem?_cons_zero, Option.getD_some]
          repeat (refine tree_step rfl (fun K hK => ?_); go_big_quiet_step ((intro _; rfl)); refine wpQuiet_nil (hK _ ?_); clear hK K)
          refine tree_load (ad.add j) (.int .i64 a) (by kernel_rfl) rfl (by kernel_rfl) (fun w' h => h.head) ?_
          dsimp only [Act.put]
          simp only [List.setIfInBounds_toArray, List.set_cons_zero, List.set_cons_succ]
          repeat (refine tree_step rfl (fun K hK => ?_); go_big_quiet_step ((intro _; rfl)); refine wpQuiet_nil (hK _ ?_); clear hK K)
          refine tree_load ⟨ad.block, ad.off + (j + 1), none⟩ (.int .i64 b) (by kernel_rfl) rfl (by kernel_rfl) (fun w' h => h.tail.head) ?_
          dsimp only [Act.put]
          simp only [List.setIfInBounds_toArray, List.set_cons_zero, List.set_cons_succ]
          repeat (refine tree_step rfl (fun K hK => ?_); go_big_quiet_step ((intro _; rfl)); refine wpQuiet_nil (hK _ ?_); clear hK K)
          refine tree_do (fun K hK => ?_)
          go_wp2_with fail
          refine ⟨trivial, ?_⟩
          refine tree_nil ?_
          go_wp2_with fail
          refine ⟨⟨j, by omega, by simp, ?_, (HU.out.setCell (by show w.heap.size ≤ G; exact HG.out) _).drew⟩, ?_⟩
          · rw [HE.out, ← cellsB_set]
            exact (HB.out.set j (.bool true)).drew
          · simp [intOf]
        · subst hab
          have hd1 : decide (a < a) = false := by simp
          have HE := Lib.hid (HST v (by rw [if_neg hA, hd1]; simp))
          clear HST hc hc2 hcO hb hU
          go_wp2_with fail
          refine wp_region_tree (Cells [(ad.add j, .int .i64 a), (⟨ad.block, ad.off + (j + 1), none⟩, .int .i64 a), (⟨G, j + 1, none⟩, .bool v)]) (.quiet 0 (.quiet 1 (.quiet 2 (.quiet 3 (.quiet 4 (.quiet 5 (.quiet 6 (.quiet 7 (.quiet 8 (.quiet 9 (.quiet 10 (.quiet 11 (.quiet 12 (.quiet 13 (.quiet 14 (.quiet 15 (.quiet 16 (.quiet 17 (.quiet 18 (.quiet 19 (.quiet 20 (.quiet 21 (.quiet 22 (.quiet 23 (.quiet 24 (.quiet 25 (.quiet 26 (.quiet 27 (.quiet 28 (.quiet 29 (.quiet 30 (.quiet 31 (.quiet 32 (.quiet 33 (.quiet 34 (.quiet 35 (.quiet 36 (.quiet 37 (.quiet 38 (.alt 39 (.nil) (.stop))))))))))))))))))))))))))))))))))))))))) (by kernel_rfl) (by kernel_rfl) rfl (by kernel_rfl) (by kernel_rfl) HC.out ?_
          simp only [pickT, List.getElem?_cons_succ, List.getElem?_cons_zero, Option.getD_some]
          repeat (refine tree_step rfl (fun K hK => ?_); go_big_quiet_step ((intro _; rfl)); refine wpQuiet_nil (hK _ ?_); clear hK K)
          refine tree_load (ad.add j) (.int .i64 a) (by kernel_rfl) rfl (by kernel_rfl) (fun w' h => h.head) ?_
          dsimp only [Act.put]
          simp only [List.setIfInBounds_toArray, List.set_cons_zero, List.set_cons_succ]
          repeat (refine tree_step rfl (fun K hK => ?_); go_big_quiet_step ((intro _; rfl)); refine wpQuiet_nil (hK _ ?_); clear hK K)
          refine tree_load ⟨ad.block, ad.off + (j + 1), none⟩ (.int .i64 a) (by kernel_rfl) rfl (by kernel_rfl) (fun w' h => h.tail.head) ?_
          dsimp only [Act.put]
          simp only [List.setIfInBounds_toArray, List.set_cons_zero, List.set_cons_succ]
          repeat (refine tree_step rfl (fun K hK => ?_); go_big_quiet_step ((intro _; rfl)); refine wpQuiet_nil (hK _ ?_); clear hK K)
          refine tree_load (ad.add j) (.int .i64 a) (by kernel_rfl) rfl (by kernel_rfl) (fun w' h => h.head) ?_
          dsimp only [Act.put]
          simp only [List.setIfInBounds_toArray, List.set_cons_zero, List.set_cons_succ]
          repeat (refine tree_step rfl (fun K hK => ?_); go_big_quiet_step ((intro _; rfl)); refine wpQuiet_nil (hK _ ?_); clear hK K)
          refine tree_load ⟨ad.block, ad.off + (j + 1), none⟩ (.int .i64 a) (by kernel_rfl) rfl (by kernel_rfl) (fun w' h => h.tail.head) ?_
          dsimp only [Act.put]
          simp only [List.setIfInBounds_toArray, List.set_cons_zero, List.set_cons_succ]
          repeat (refine tree_step rfl (fun K hK => ?_); go_big_quiet_step ((intro _; rfl)); refine wpQuiet_nil (hK _ ?_); clear hK K)
          refine tree_load ⟨G, j + 1, none⟩ (.bool v) (by kernel_rfl) rfl (by kernel_rfl) (fun w' h => h.tail.tail.head) ?_
          dsimp only [Act.put]
          simp only [List.setIfInBounds_toArray, List.set_cons_zero, List.set_cons_succ]
          repeat (refine tree_step rfl (fun K hK => ?_); go_big_quiet_step ((intro _; rfl)); refine wpQuiet_nil (hK _ ?_); clear hK K)
          refine tree_do (fun K hK => ?_)
          go_wp2_with fail
          refine ⟨trivial, ?_⟩
          refine tree_nil ?_
          go_wp2_with fail
          refine ⟨⟨j, by omega, by simp, ?_, (HU.out.setCell (by show w.heap.size ≤ G; exact HG.out) _).drew⟩, ?_⟩
          · rw [HE.out, ← cellsB_set]
            exact (HB.out.set j (.bool v)).drew
          · simp [intOf]
        · have hd1 : decide (a < b) = false := decide_eq_false (by omega)
          have hd2 : (a == b) = false := by simpa using (show a ≠ b by omega)
          have hd3 : decide (a = b) = false := decide_eq_false (by omega)
          have HE := Lib.hid (HST false (by rw [if_neg hA, hd1, hd3]; rfl))
          clear HST hc hc2 hcO hb hU
          go_wp2_with fail
          refine wp_region_tree (Cells [(ad.add j, .int .i64 a), (⟨ad.block, ad.off + (j + 1), none⟩, .int .i64 b), (⟨G, j + 1, none⟩, .bool v)]) (.quiet 0 (.quiet 1 (.quiet 2 (.quiet 3 (.quiet 4 (.quiet 5 (.quiet 6 (.quiet 7 (.quiet 8 (.quiet 9 (.quiet 10 (.quiet 11 (.quiet 12 (.quiet 13 (.quiet 14 (.quiet 15 (.quiet 16 (.quiet 17 (.quiet 18 (.quiet 19 (.quiet 20 (.quiet 21 (.quiet 22 (.quiet 23 (.quiet 24 (.quiet 25 (.quiet 26 (.quiet 27 (.quiet 28 (.quiet 29 (.quiet 30 (.quiet 31 (.quiet 32 (.quiet 33 (.quiet 34 (.quiet 35 (.quiet 36 (.quiet 37 (.quiet 38 (.alt 39 (.nil) (.stop))))))))))))))))))))))))))))))))))))))))) (by kernel_rfl) (by kernel_rfl) rfl (by kernel_rfl) (by kernel_rfl) HC.out ?_
          simp only [pickT, List.getElem?_cons_succ, List.getElem?_cons_zero, Option.getD_some]
          repeat (refine tree_step rfl (fun K hK => ?_); go_big_quiet_step ((intro _; rfl)); refine wpQuiet_nil (hK _ ?_); clear hK K)
          refine tree_load (ad.add j) (.int .i64 a) (by kernel_rfl) rfl (by kernel_rfl) (fun w' h => h.head) ?_
          dsimp only [Act.put]
          simp only [List.setIfInBounds_toArray, List.set_cons_zero, List.set_cons_succ]
          repeat (refine tree_step rfl (fun K hK => ?_); go_big_quiet_step ((intro _; rfl)); refine wpQuiet_nil (hK _ ?_); clear hK K)
          refine tree_load ⟨ad.block, ad.off + (j + 1), none⟩ (.int .i64 b) (by kernel_rfl) rfl (by kernel_rfl) (fun w' h => h.tail.head) ?_
          dsimp only [Act.put]
          simp only [List.setIfInBounds_toArray, List.set_cons_zero, List.set_cons_succ]
          repeat (refine tree_step rfl (fun K hK => ?_); go_big_quiet_step ((intro _; rfl)); refine wpQuiet_nil (hK _ ?_); clear hK K)
          refine tree_load (ad.add j) (.int .i64 a) (by kernel_rfl) rfl (by kernel_rfl) (fun w' h => h.head) ?_
          dsimp only [Act.put]
          simp only [List.setIfInBounds_toArray, List.set_cons_zero, List.set_cons_succ]
          repeat (refine tree_step rfl (fun K hK => ?_); go_big_quiet_step ((intro _; rfl)); refine wpQuiet_nil (hK _ ?_); clear hK K)
          refine tree_load ⟨ad.block, ad.off + (j + 1), none⟩ (.int .i64 b) (by kernel_rfl) rfl (by kernel_rfl) (fun w' h => h.tail.head) ?_
          dsimp only [Act.put]
          simp only [List.setIfInBounds_toArray, List.set_cons_zero, List.set_cons_succ]
          repeat (refine tree_step rfl (fun K hK => ?_); go_big_quiet_step ((intro _; rfl)); refine wpQuiet_nil (hK _ ?_); clear hK K)
          refine tree_do (fun K hK => ?_)
          go_wp2_with fail
          refine ⟨trivial, ?_⟩
          refine tree_nil ?_
          go_wp2_with fail
          refine ⟨⟨j, by omega, by simp, ?_, (HU.out.setCell (by show w.heap.size ≤ G; exact HG.out) _).drew⟩, ?_⟩
          · rw [HE.out, ← cellsB_set]
            exact (HB.out.set j (.bool false)).drew
          · simp [intOf]
end Go.Proofs.Ytmmacpicbonhhaa
