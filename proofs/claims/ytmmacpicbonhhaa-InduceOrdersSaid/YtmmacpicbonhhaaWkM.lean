/- Several texts in one: Buck, IndClr, IndLg, IndSm, Rep. -/
import Derived.Test.YtmmacpicbonhhaaCopy
import Derived.Test.YtmmacpicbonhhaaShelf
import Derived.Test.YtmmacpicbonhhaaIndM
/- The walk of induce's buckets. -/
namespace Go.Proofs.Ytmmacpicbonhhaa
open Go.RowKit
set_option maxRecDepth 100000

theorem add_at (b o j : Nat) : (⟨b, o, none⟩ : Addr).add j = ⟨b, o + j, none⟩ := by
  unfold Addr.add
  split <;> simp_all
theorem infoInt9 : (Try.prog.info? 3).map (fun i => (i.zero, i.size, i.bytes)) = some (some (.int .i64 0), 1, 8) := by kernel_rfl
/-- How often a code stands there; how many are below; how many are not above. -/
def cntC (l : List Int) (c : Int) : Nat := (l.filter fun y => decide (y = c)).length
def hdC (l : List Int) (c : Int) : Nat := (l.filter fun y => decide (y < c)).length
theorem hdC_succ (l : List Int) (c : Int) : hdC l (c + 1) = hdC l c + cntC l c := by
  unfold hdC cntC
  induction l with
  | nil => rfl
  | cons a l ih =>
    rw [List.filter_cons, List.filter_cons, List.filter_cons]
    by_cases h1 : a < c
    · rw [if_pos (by simp; omega), if_pos (by simpa using h1), if_neg (by simp; omega), List.length_cons, List.length_cons]; omega
    · by_cases h2 : a = c
      · rw [if_pos (by simp; omega), if_neg (by simpa using h1), if_pos (by simpa using h2), List.length_cons, List.length_cons]; omega
      · rw [if_neg (by simp; omega), if_neg (by simpa using h1), if_neg (by simpa using h2)]; exact ih
theorem hdC_zero {l : List Int} (h : ∀ y ∈ l, 0 ≤ y) : hdC l 0 = 0 := by
  unfold hdC
  rw [List.length_eq_zero_iff, List.filter_eq_nil_iff]
  intro y hy
  have := h y hy
  simp; omega
theorem hdC_le (l : List Int) (c : Int) : hdC l c ≤ l.length := List.length_filter_le _ _
theorem cntC_le (l : List Int) (c : Int) : cntC l c ≤ l.length := List.length_filter_le _ _
def cntsL (l : List Int) (m : Nat) : List Int := (List.range m).map fun (c : Nat) => (cntC l (c : Int) : Int)
def headsUp (l : List Int) (m j : Nat) : List Int := (List.range m).map fun (c : Nat) => if c < j then (hdC l (c : Int) : Int) else 0
def tailsUp (l : List Int) (m j : Nat) : List Int := (List.range m).map fun (c : Nat) => if c < j then (hdC l ((c : Int) + 1) : Int) else (cntC l (c : Int) : Int)
theorem mapR_len (m : Nat) (f : Nat → Int) : ((List.range m).map f).length = m := by simp
theorem mapR_get (m : Nat) (f : Nat → Int) (c : Nat) (h : c < m) : ((List.range m).map f).getD c 0 = f c := by simp [List.getD_eq_getElem?_getD, h]
theorem mapR_set (m : Nat) (f g : Nat → Int) (c : Nat) (h : ∀ d, d < m → d ≠ c → f d = g d) : ((List.range m).map f).set c (g c) = (List.range m).map g := by
  refine List.ext_getElem (by simp) fun d h1 h2 => ?_
  rw [List.length_set, mapR_len] at h1
  rw [List.getElem_set]
  by_cases e : c = d
  · subst e; simp
  · rw [if_neg e]; simp; exact h d h1 (fun e2 => e e2.symm)
theorem cnts_step (x : List Int) (m k : Nat) (hk : k < x.length) (c : Nat) (hc : x.getD k 0 = (c : Int)) : (cntsL (x.take k) m).set c ((cntC (x.take k) (c : Int) : Int) + 1) = cntsL (x.take (k + 1)) m := by
  have ht : ∀ d : Int, cntC (x.take (k + 1)) d = cntC (x.take k) d + if x.getD k 0 = d then 1 else 0 := fun d => by
    unfold cntC
    rw [List.take_succ_eq_append_getElem hk, List.filter_append, List.length_append]
    congr 1
    rw [show x.getD k 0 = x[k] by simp [List.getD_eq_getElem?_getD, hk]]
    by_cases h : x[k] = d
    · simp [h]
    · simp [h]
  have := mapR_set m (fun d => (cntC (x.take k) (d : Int) : Int)) (fun d => (cntC (x.take (k + 1)) (d : Int) : Int)) c fun d _ hne => by
    rw [ht, if_neg (by rw [hc]; omega)]
    simp
  unfold cntsL
  rw [← this, ht, if_pos hc]
  simp
theorem cnts_zero (m : Nat) : cntsL [] m = List.replicate m 0 := by
  unfold cntsL
  refine List.ext_getElem (by simp) fun d h1 h2 => by simp [cntC]
theorem i64_nat (n : Nat) (h : n ≤ 9223372036854775807) : InK .i64 (n : Int) := InK.of_i64 (by omega) (by omega)

theorem heads_step (x : List Int) (m c : Nat) : (headsUp x m c).set c (hdC x (c : Int) : Int) = headsUp x m (c + 1) := by
  have := mapR_set m (fun d : Nat => if d < c then (hdC x (d : Int) : Int) else 0) (fun d : Nat => if d < c + 1 then (hdC x (d : Int) : Int) else 0) c fun d _ hne => by
    by_cases h : d < c
    · simp only [h, show d < c + 1 by omega, if_true]
    · simp only [h, show ¬ d < c + 1 by omega, if_false]
  unfold headsUp
  rw [← this]
  simp
theorem tails_step (x : List Int) (m c : Nat) : (tailsUp x m c).set c (hdC x ((c : Int) + 1) : Int) = tailsUp x m (c + 1) := by
  have := mapR_set m (fun d : Nat => if d < c then (hdC x ((d : Int) + 1) : Int) else (cntC x (d : Int) : Int)) (fun d : Nat => if d < c + 1 then (hdC x ((d : Int) + 1) : Int) else (cntC x (d : Int) : Int)) c fun d _ hne => by
    by_cases h : d < c
    · simp only [h, show d < c + 1 by omega, if_true]
    · simp only [h, show ¬ d < c + 1 by omega, if_false]
  unfold tailsUp
  rw [← this]
  simp
theorem heads_zero (x : List Int) (m : Nat) : headsUp x m 0 = List.replicate m 0 := by
  unfold headsUp
  refine List.ext_getElem (by simp) fun d h1 h2 => by simp
theorem tails_zero (x : List Int) (m : Nat) : tailsUp x m 0 = cntsL x m := by
  unfold tailsUp cntsL
  refine List.ext_getElem (by simp) fun d h1 h2 => by simp
theorem cnts_len' (x : List Int) (m : Nat) : (cntsL x m).length = m := mapR_len _ _
theorem heads_len (x : List Int) (m c : Nat) : (headsUp x m c).length = m := mapR_len _ _
theorem tails_len (x : List Int) (m c : Nat) : (tailsUp x m c).length = m := mapR_len _ _
theorem cnts_get' (x : List Int) (m c : Nat) (h : c < m) : (cntsL x m).getD c 0 = (cntC x (c : Int) : Int) := mapR_get _ _ _ h
theorem heads_get (x : List Int) (m c : Nat) (h : c < m) : (headsUp x m c).getD c 0 = 0 := by
  unfold headsUp; rw [mapR_get _ _ _ h, if_neg (by omega)]
theorem tails_get (x : List Int) (m c : Nat) (h : c < m) : (tailsUp x m c).getD c 0 = (cntC x (c : Int) : Int) := by
  unfold tailsUp; rw [mapR_get _ _ _ h, if_neg (by omega)]

structure BuckPost (x : List Int) (m : Nat) (w : World) (e : Ending) (w' : World) : Prop where mk ::
  out : ∃ H T, e = .returned (.tuple #[.slice (some ⟨H, 0, none⟩) m m, .slice (some ⟨T, 0, none⟩) m m]) ∧ H ≠ T ∧ w.heap.size ≤ H ∧ w.heap.size ≤ T ∧ Blk w' H 3 (cellsOf .i64 (headsUp x m m)) ∧ Blk w' T 3 (cellsOf .i64 (tailsUp x m m)) ∧ Up w w'

set_option maxHeartbeats 4000000 in
theorem buckets_calls (b off c : Nat) (x : List Int) (w : World) (h1 : Rd w .i64 (some ⟨b, off, none⟩) c x) (hx : 0 < x.length) (hl : x.length ≤ 65536) (m : Nat) (HM : Hid (Lib.maxOf x + 1 = (m : Int))) (hm : m ≤ 65536) (HR : Hid (∀ y ∈ x, 0 ≤ y ∧ y < (m : Int))) :
    Calls Try.prog 71 #[.slice (some ⟨b, off, none⟩) x.length c] w (BuckPost x m w) := by
  have hmx : Lib.maxOf x = (m : Int) - 1 := by have := HM.out; omega
  have HC : ∀ (W : World), Up w W → Hid (Calls Try.prog 84 #[.slice (some ⟨b, off, none⟩) x.length c] W fun e w' => e = .returned (.int .i64 ((m : Int) - 1)) ∧ w' = W) := fun W hu => by
    have := Try.slices_Max_int b off x.length c x W hx (Nat.le_refl _) (by omega) (fun j hj => by rw [← add_at]; exact (h1.up hu).cell _ rfl j hj)
    rw [List.take_length, hmx] at this
    exact Lib.hid this
  clear hmx HM
  generalize (some ⟨b, off, none⟩ : Option Addr) = A at *
  have hm1 : (m : Int) - 1 + 1 = (m : Int) := by omega
  go_enter Try.func71, Try.ntmps71
  go_wp2_with fail
  have HW := (Up.refl w).drew
  refine wp_region_tree (fun w' => Up w w') (.quiet 0 (.quiet 4 (.alt 1 (.quiet 2 (.alt 3 (.alt 5 (.quiet 6 (.quiet 8 (.alt 7 (.quiet 9 (.nil)) (.stop)))) (.stop)) (.alt 5 (.quiet 6 (.alt 3 (.quiet 8 (.alt 7 (.quiet 9 (.nil)) (.stop))) (.alt 7 (.alt 3 (.quiet 8 (.quiet 9 (.nil))) (.stop)) (.stop)))) (.stop)))) (.stop)))) (by kernel_rfl) (by kernel_rfl) rfl (by kernel_rfl) (by kernel_rfl) (HW) ?_
  simp only [pickT, List.getElem?_cons_succ, List.getElem?_cons_zero, Option.getD_some]
  repeat (refine tree_step rfl (fun K hK => ?_); go_big_quiet_step ((intro _; rfl)); refine wpQuiet_nil (hK _ ?_); clear hK K)
  generalize w.drew = wc at *
  refine tree_do (fun K hK => ?_)
  go_wp2_with fail
  refine (HC wc HW).out.mono ?_
  rintro en wc ⟨rfl, rfl⟩
  go_wp2_with fail
  refine ⟨HW, ?_⟩
  repeat (refine tree_step rfl (fun K hK => ?_); go_big_quiet_step ((intro _; rfl)); refine wpQuiet_nil (hK _ ?_); clear hK K)
  refine tree_alt (fun K hK => ?_) ?_
  ·
    go_wp2_with (refine wpl_makeK 3 .i64 8 Try.underlying22 infoInt9 m rfl rfl (by omega) (by omega) ?_; intro wn hbH hSH hszH)
    refine ⟨by first | trivial | exact HW.trans hSH, ?_⟩
    have hHlo := HW.size
    replace HW := HW.trans hSH
    have hHhi : wc.heap.size < wn.heap.size := by omega
    clear hszH
    generalize wc.heap.size = H at *
    clear hSH wc
    rename World => wc
    dsimp only [Act.put]
    simp only [List.setIfInBounds_toArray, List.set_cons_zero, List.set_cons_succ]
    refine tree_do (fun K hK => ?_)
    go_wp2_with fail
    refine (HC wc HW).out.mono ?_
    rintro en wc ⟨rfl, rfl⟩
    go_wp2_with fail
    refine ⟨HW, ?_⟩
    repeat (refine tree_step rfl (fun K hK => ?_); go_big_quiet_step ((intro _; rfl)); refine wpQuiet_nil (hK _ ?_); clear hK K)
    refine tree_do (fun K hK => ?_)
    go_wp2_with (refine wpl_makeK 3 .i64 8 Try.underlying22 infoInt9 m rfl rfl (by omega) (by omega) ?_; intro wn hbT hST hszT)
    refine ⟨by first | trivial | exact HW.trans hST, ?_⟩
    have hTlo := HW.size
    replace HW := HW.trans hST
    have hThi : wc.heap.size < wn.heap.size := by omega
    clear hszT
    have hne : H ≠ wc.heap.size := by omega
    replace hbH := hbH.up hST
    generalize wc.heap.size = T at *
    clear hST wc
    rename World => wc
    dsimp only [Act.put]
    simp only [List.setIfInBounds_toArray, List.set_cons_zero, List.set_cons_succ]
    repeat (refine tree_step rfl (fun K hK => ?_); go_big_quiet_step ((intro _; rfl)); refine wpQuiet_nil (hK _ ?_); clear hK K)
    refine tree_nil ?_
    clear HC hm1
    go_wp2_with fail
    go_loopw [5, 19] (fun _ i wr => ∃ k : Nat, k ≤ x.length ∧ i = .int .i64 k ∧ Blk wr H 3 (cellsOf .i64 (List.replicate m 0)) ∧ Blk wr T 3 (cellsOf .i64 (cntsL (x.take k) m)) ∧ Up w wr) (fun _ i _ => x.length - (intOf i).toNat)
    case atStart => exact ⟨0, by omega, rfl, hbH, by rw [List.take_zero, cnts_zero]; exact hbT, HW⟩
    case round =>
      clear hbH hbT HW hHhi hThi
      obtain ⟨k, hk, rfl, hbH, hbT, hU⟩ := hrel
      by_cases hlt : k < x.length
      · obtain ⟨ad, y, rfl, hc, HX, hxr⟩ := h1.get k hlt
        have hc' := hU.cell hc
        have hmem : y ∈ x := by
          rw [← HX.out, List.getD_eq_getElem?_getD, List.getElem?_eq_getElem hlt]; exact List.getElem_mem hlt
        obtain ⟨hy0, hy1⟩ := HR.out y hmem
        clear hmem
        obtain ⟨n, rfl⟩ := Int.eq_ofNat_of_zero_le hy0
        have hn : n < m := by omega
        have HN := Lib.hid (cnts_step x m k hlt n HX.out)
        have hcl : cntC (x.take k) (n : Int) ≤ x.length := by
          have := cntC_le (x.take k) n
          have := List.length_take_le' k x
          omega
        have hg := (hbT.cell n).trans (cellsOf_get _ _ n (by rw [cnts_len']; exact hn))
        rw [cnts_get' _ _ _ hn] at hg
        have hf := hbT.frozen n
        generalize cntC (x.take k) (n : Int) = q at *
        clear hy0 hy1
        go_wp2_with fail
        have hx4 : UpX (fun b => b = T) wr (wr.setCell ⟨T, n, none⟩ (.int .i64 ((q : Int) + 1))) := UpX.one _ _ _ _
        go_roundw
        case rel =>
          refine ⟨k + 1, by omega, by simp, hbH.other _ _ hne, ?_, hU.thenx hx4 fun i hi e => by omega⟩
          rw [← HN.out, ← cellsOf_set]
          exact hbT.set n _
        case measure => simp [intOf]; omega
      · have hke : k = x.length := by omega
        subst hke
        rw [List.take_length, ← tails_zero] at hbT
        rw [← heads_zero x] at hbH
        go_wp2_with fail
        go_loopw [6, 7, 8, 32] (fun a _ _ i wr => ∃ k : Nat, k ≤ m ∧ i = .int .i64 k ∧ a = .int .i64 (hdC x (k : Int)) ∧ Blk wr H 3 (cellsOf .i64 (headsUp x m k)) ∧ Blk wr T 3 (cellsOf .i64 (tailsUp x m k)) ∧ Up w wr) (fun _ _ _ i _ => m - (intOf i).toNat)
        case atStart => exact ⟨0, by omega, rfl, by rw [Int.natCast_zero, hdC_zero fun y hy => (HR.out y hy).1]; rfl, hbH, hbT, hU⟩
        case round =>
          clear hbH hbT hU
          obtain ⟨k, hk, rfl, rfl, hbH, hbT, hU⟩ := hrel
          by_cases hlt : k < m
          · have hbT2 := hbT.other ⟨H, k, none⟩ (.int .i64 (hdC x (k : Int))) (Ne.symm hne)
            have hgH := (hbH.cell k).trans (cellsOf_get _ _ k (by rw [heads_len]; exact hlt))
            rw [heads_get _ _ _ hlt] at hgH
            have hfH := hbH.frozen k
            have hgT := (hbT.cell k).trans (cellsOf_get _ _ k (by rw [tails_len]; exact hlt))
            rw [tails_get _ _ _ hlt] at hgT
            have hgT2 := (hbT2.cell k).trans (cellsOf_get _ _ k (by rw [tails_len]; exact hlt))
            rw [tails_get _ _ _ hlt] at hgT2
            have hfT2 := hbT2.frozen k
            have hq1 := hdC_le x ((k : Int) + 1)
            have hq2 := hdC_succ x (k : Int)
            have HN1 := Lib.hid (heads_step x m k)
            have HN2 := Lib.hid (tails_step x m k)
            have HBH := Lib.hid hbH
            have HBT2 := Lib.hid hbT2
            have HQ2 := Lib.hid hq2
            clear hbH hbT hbT2
            rw [hq2] at hq1
            clear hq2
            go_wp2_with fail
            go_roundw
            case rel =>
              refine ⟨k + 1, by omega, by simp, ?_, ?_, ?_, ?_⟩
              · rw [show (((k + 1 : Nat) : Int)) = (k : Int) + 1 by omega, HQ2.out]; simp
              · rw [← HN1.out, ← cellsOf_set]
                exact (HBH.out.set k _).other _ _ hne
              · rw [← HN2.out, ← cellsOf_set, HQ2.out]
                have := HBT2.out.set k (.int .i64 ((hdC x (k : Int) + cntC x (k : Int) : Nat) : Int))
                simpa using this
              · exact (hU.setCell (by show w.heap.size ≤ H; omega) _).setCell (by show w.heap.size ≤ T; omega) _
            case measure => simp [intOf]; omega
          · have hke : k = m := by omega
            subst hke
            go_wp2_with fail
            go_ret2
            exact ⟨_, _, rfl, hne, hHlo, hTlo, hbH, hbT, hU⟩
  refine tree_do (fun K hK => ?_)
  go_wp2_with fail
  refine (HC wc HW).out.mono ?_
  rintro en wc ⟨rfl, rfl⟩
  go_wp2_with fail
  refine ⟨HW, ?_⟩
  repeat (refine tree_step rfl (fun K hK => ?_); go_big_quiet_step ((intro _; rfl)); refine wpQuiet_nil (hK _ ?_); clear hK K)
  refine tree_alt (fun K hK => ?_) ?_
  ·
    go_wp2_with (refine wpl_makeK 3 .i64 8 Try.underlying22 infoInt9 m rfl rfl (by omega) (by omega) ?_; intro wn hbH hSH hszH)
    refine ⟨by first | trivial | exact HW.trans hSH, ?_⟩
    have hHlo := HW.size
    replace HW := HW.trans hSH
    have hHhi : wc.heap.size < wn.heap.size := by omega
    clear hszH
    generalize wc.heap.size = H at *
    clear hSH wc
    rename World => wc
    dsimp only [Act.put]
    simp only [List.setIfInBounds_toArray, List.set_cons_zero, List.set_cons_succ]
    repeat (refine tree_step rfl (fun K hK => ?_); go_big_quiet_step ((intro _; rfl)); refine wpQuiet_nil (hK _ ?_); clear hK K)
    refine tree_do (fun K hK => ?_)
    go_wp2_with (refine wpl_makeK 3 .i64 8 Try.underlying22 infoInt9 m rfl rfl (by omega) (by omega) ?_; intro wn hbT hST hszT)
    refine ⟨by first | trivial | exact HW.trans hST, ?_⟩
    have hTlo := HW.size
    replace HW := HW.trans hST
    have hThi : wc.heap.size < wn.heap.size := by omega
    clear hszT
    have hne : H ≠ wc.heap.size := by omega
    replace hbH := hbH.up hST
    generalize wc.heap.size = T at *
    clear hST wc
    rename World => wc
    dsimp only [Act.put]
    simp only [List.setIfInBounds_toArray, List.set_cons_zero, List.set_cons_succ]
    repeat (refine tree_step rfl (fun K hK => ?_); go_big_quiet_step ((intro _; rfl)); refine wpQuiet_nil (hK _ ?_); clear hK K)
    refine tree_nil ?_
    clear HC hm1
    go_wp2_with fail
    go_loopw [5, 19] (fun _ i wr => ∃ k : Nat, k ≤ x.length ∧ i = .int .i64 k ∧ Blk wr H 3 (cellsOf .i64 (List.replicate m 0)) ∧ Blk wr T 3 (cellsOf .i64 (cntsL (x.take k) m)) ∧ Up w wr) (fun _ i _ => x.length - (intOf i).toNat)
    case atStart => exact ⟨0, by omega, rfl, hbH, by rw [List.take_zero, cnts_zero]; exact hbT, HW⟩
    case round =>
      clear hbH hbT HW hHhi hThi
      obtain ⟨k, hk, rfl, hbH, hbT, hU⟩ := hrel
      by_cases hlt : k < x.length
      · obtain ⟨ad, y, rfl, hc, HX, hxr⟩ := h1.get k hlt
        have hc' := hU.cell hc
        have hmem : y ∈ x := by
          rw [← HX.out, List.getD_eq_getElem?_getD, List.getElem?_eq_getElem hlt]; exact List.getElem_mem hlt
        obtain ⟨hy0, hy1⟩ := HR.out y hmem
        clear hmem
        obtain ⟨n, rfl⟩ := Int.eq_ofNat_of_zero_le hy0
        have hn : n < m := by omega
        have HN := Lib.hid (cnts_step x m k hlt n HX.out)
        have hcl : cntC (x.take k) (n : Int) ≤ x.length := by
          have := cntC_le (x.take k) n
          have := List.length_take_le' k x
          omega
        have hg := (hbT.cell n).trans (cellsOf_get _ _ n (by rw [cnts_len']; exact hn))
        rw [cnts_get' _ _ _ hn] at hg
        have hf := hbT.frozen n
        generalize cntC (x.take k) (n : Int) = q at *
        clear hy0 hy1
        go_wp2_with fail
        have hx4 : UpX (fun b => b = T) wr (wr.setCell ⟨T, n, none⟩ (.int .i64 ((q : Int) + 1))) := UpX.one _ _ _ _
        go_roundw
        case rel =>
          refine ⟨k + 1, by omega, by simp, hbH.other _ _ hne, ?_, hU.thenx hx4 fun i hi e => by omega⟩
          rw [← HN.out, ← cellsOf_set]
          exact hbT.set n _
        case measure => simp [intOf]; omega
      · have hke : k = x.length := by omega
        subst hke
        rw [List.take_length, ← tails_zero] at hbT
        rw [← heads_zero x] at hbH
        go_wp2_with fail
        go_loopw [6, 7, 8, 32] (fun a _ _ i wr => ∃ k : Nat, k ≤ m ∧ i = .int .i64 k ∧ a = .int .i64 (hdC x (k : Int)) ∧ Blk wr H 3 (cellsOf .i64 (headsUp x m k)) ∧ Blk wr T 3 (cellsOf .i64 (tailsUp x m k)) ∧ Up w wr) (fun _ _ _ i _ => m - (intOf i).toNat)
        case atStart => exact ⟨0, by omega, rfl, by rw [Int.natCast_zero, hdC_zero fun y hy => (HR.out y hy).1]; rfl, hbH, hbT, hU⟩
        case round =>
          clear hbH hbT hU
          obtain ⟨k, hk, rfl, rfl, hbH, hbT, hU⟩ := hrel
          by_cases hlt : k < m
          · have hbT2 := hbT.other ⟨H, k, none⟩ (.int .i64 (hdC x (k : Int))) (Ne.symm hne)
            have hgH := (hbH.cell k).trans (cellsOf_get _ _ k (by rw [heads_len]; exact hlt))
            rw [heads_get _ _ _ hlt] at hgH
            have hfH := hbH.frozen k
            have hgT := (hbT.cell k).trans (cellsOf_get _ _ k (by rw [tails_len]; exact hlt))
            rw [tails_get _ _ _ hlt] at hgT
            have hgT2 := (hbT2.cell k).trans (cellsOf_get _ _ k (by rw [tails_len]; exact hlt))
            rw [tails_get _ _ _ hlt] at hgT2
            have hfT2 := hbT2.frozen k
            have hq1 := hdC_le x ((k : Int) + 1)
            have hq2 := hdC_succ x (k : Int)
            have HN1 := Lib.hid (heads_step x m k)
            have HN2 := Lib.hid (tails_step x m k)
            have HBH := Lib.hid hbH
            have HBT2 := Lib.hid hbT2
            have HQ2 := Lib.hid hq2
            clear hbH hbT hbT2
            rw [hq2] at hq1
            clear hq2
            go_wp2_with fail
            go_roundw
            case rel =>
              refine ⟨k + 1, by omega, by simp, ?_, ?_, ?_, ?_⟩
              · rw [show (((k + 1 : Nat) : Int)) = (k : Int) + 1 by omega, HQ2.out]; simp
              · rw [← HN1.out, ← cellsOf_set]
                exact (HBH.out.set k _).other _ _ hne
              · rw [← HN2.out, ← cellsOf_set, HQ2.out]
                have := HBT2.out.set k (.int .i64 ((hdC x (k : Int) + cntC x (k : Int) : Nat) : Int))
                simpa using this
              · exact (hU.setCell (by show w.heap.size ≤ H; omega) _).setCell (by show w.heap.size ≤ T; omega) _
            case measure => simp [intOf]; omega
          · have hke : k = m := by omega
            subst hke
            go_wp2_with fail
            go_ret2
            exact ⟨_, _, rfl, hne, hHlo, hTlo, hbH, hbT, hU⟩
  refine tree_do (fun K hK => ?_)
  go_wp2_with (refine wpl_makeK 3 .i64 8 Try.underlying22 infoInt9 m rfl rfl (by omega) (by omega) ?_; intro wn hbT hST hszT)
  refine ⟨by first | trivial | exact HW.trans hST, ?_⟩
  have hTlo := HW.size
  replace HW := HW.trans hST
  have hThi : wc.heap.size < wn.heap.size := by omega
  clear hszT
  generalize wc.heap.size = T at *
  clear hST wc
  rename World => wc
  dsimp only [Act.put]
  simp only [List.setIfInBounds_toArray, List.set_cons_zero, List.set_cons_succ]
  refine tree_do (fun K hK => ?_)
  go_wp2_with (refine wpl_makeK 3 .i64 8 Try.underlying22 infoInt9 m rfl rfl (by omega) (by omega) ?_; intro wn hbH hSH hszH)
  refine ⟨by first | trivial | exact HW.trans hSH, ?_⟩
  have hHlo := HW.size
  replace HW := HW.trans hSH
  have hHhi : wc.heap.size < wn.heap.size := by omega
  clear hszH
  have hne : wc.heap.size ≠ T := by omega
  replace hbT := hbT.up hSH
  generalize wc.heap.size = H at *
  clear hSH wc
  rename World => wc
  dsimp only [Act.put]
  simp only [List.setIfInBounds_toArray, List.set_cons_zero, List.set_cons_succ]
  repeat (refine tree_step rfl (fun K hK => ?_); go_big_quiet_step ((intro _; rfl)); refine wpQuiet_nil (hK _ ?_); clear hK K)
  refine tree_nil ?_
  clear HC hm1
  go_wp2_with fail
  go_loopw [5, 19] (fun _ i wr => ∃ k : Nat, k ≤ x.length ∧ i = .int .i64 k ∧ Blk wr H 3 (cellsOf .i64 (List.replicate m 0)) ∧ Blk wr T 3 (cellsOf .i64 (cntsL (x.take k) m)) ∧ Up w wr) (fun _ i _ => x.length - (intOf i).toNat)
  case atStart => exact ⟨0, by omega, rfl, hbH, by rw [List.take_zero, cnts_zero]; exact hbT, HW⟩
  case round =>
    clear hbH hbT HW hHhi hThi
    obtain ⟨k, hk, rfl, hbH, hbT, hU⟩ := hrel
    by_cases hlt : k < x.length
    · obtain ⟨ad, y, rfl, hc, HX, hxr⟩ := h1.get k hlt
      have hc' := hU.cell hc
      have hmem : y ∈ x := by
        rw [← HX.out, List.getD_eq_getElem?_getD, List.getElem?_eq_getElem hlt]; exact List.getElem_mem hlt
      obtain ⟨hy0, hy1⟩ := HR.out y hmem
      clear hmem
      obtain ⟨n, rfl⟩ := Int.eq_ofNat_of_zero_le hy0
      have hn : n < m := by omega
      have HN := Lib.hid (cnts_step x m k hlt n HX.out)
      have hcl : cntC (x.take k) (n : Int) ≤ x.length := by
        have := cntC_le (x.take k) n
        have := List.length_take_le' k x
        omega
      have hg := (hbT.cell n).trans (cellsOf_get _ _ n (by rw [cnts_len']; exact hn))
      rw [cnts_get' _ _ _ hn] at hg
      have hf := hbT.frozen n
      generalize cntC (x.take k) (n : Int) = q at *
      clear hy0 hy1
      go_wp2_with fail
      have hx4 : UpX (fun b => b = T) wr (wr.setCell ⟨T, n, none⟩ (.int .i64 ((q : Int) + 1))) := UpX.one _ _ _ _
      go_roundw
      case rel =>
        refine ⟨k + 1, by omega, by simp, hbH.other _ _ hne, ?_, hU.thenx hx4 fun i hi e => by omega⟩
        rw [← HN.out, ← cellsOf_set]
        exact hbT.set n _
      case measure => simp [intOf]; omega
    · have hke : k = x.length := by omega
      subst hke
      rw [List.take_length, ← tails_zero] at hbT
      rw [← heads_zero x] at hbH
      go_wp2_with fail
      go_loopw [6, 7, 8, 32] (fun a _ _ i wr => ∃ k : Nat, k ≤ m ∧ i = .int .i64 k ∧ a = .int .i64 (hdC x (k : Int)) ∧ Blk wr H 3 (cellsOf .i64 (headsUp x m k)) ∧ Blk wr T 3 (cellsOf .i64 (tailsUp x m k)) ∧ Up w wr) (fun _ _ _ i _ => m - (intOf i).toNat)
      case atStart => exact ⟨0, by omega, rfl, by rw [Int.natCast_zero, hdC_zero fun y hy => (HR.out y hy).1]; rfl, hbH, hbT, hU⟩
      case round =>
        clear hbH hbT hU
        obtain ⟨k, hk, rfl, rfl, hbH, hbT, hU⟩ := hrel
        by_cases hlt : k < m
        · have hbT2 := hbT.other ⟨H, k, none⟩ (.int .i64 (hdC x (k : Int))) (Ne.symm hne)
          have hgH := (hbH.cell k).trans (cellsOf_get _ _ k (by rw [heads_len]; exact hlt))
          rw [heads_get _ _ _ hlt] at hgH
          have hfH := hbH.frozen k
          have hgT := (hbT.cell k).trans (cellsOf_get _ _ k (by rw [tails_len]; exact hlt))
          rw [tails_get _ _ _ hlt] at hgT
          have hgT2 := (hbT2.cell k).trans (cellsOf_get _ _ k (by rw [tails_len]; exact hlt))
          rw [tails_get _ _ _ hlt] at hgT2
          have hfT2 := hbT2.frozen k
          have hq1 := hdC_le x ((k : Int) + 1)
          have hq2 := hdC_succ x (k : Int)
          have HN1 := Lib.hid (heads_step x m k)
          have HN2 := Lib.hid (tails_step x m k)
          have HBH := Lib.hid hbH
          have HBT2 := Lib.hid hbT2
          have HQ2 := Lib.hid hq2
          clear hbH hbT hbT2
          rw [hq2] at hq1
          clear hq2
          go_wp2_with fail
          go_roundw
          case rel =>
            refine ⟨k + 1, by omega, by simp, ?_, ?_, ?_, ?_⟩
            · rw [show (((k + 1 : Nat) : Int)) = (k : Int) + 1 by omega, HQ2.out]; simp
            · rw [← HN1.out, ← cellsOf_set]
              exact (HBH.out.set k _).other _ _ hne
            · rw [← HN2.out, ← cellsOf_set, HQ2.out]
              have := HBT2.out.set k (.int .i64 ((hdC x (k : Int) + cntC x (k : Int) : Nat) : Int))
              simpa using this
            · exact (hU.setCell (by show w.heap.size ≤ H; omega) _).setCell (by show w.heap.size ≤ T; omega) _
          case measure => simp [intOf]; omega
        · have hke : k = m := by omega
          subst hke
          go_wp2_with fail
          go_ret2
          exact ⟨_, _, rfl, hne, hHlo, hTlo, hbH, hbT, hU⟩
end Go.Proofs.Ytmmacpicbonhhaa

/- The walks of induce.state's last and clear. -/
namespace Go.Proofs.Ytmmacpicbonhhaa
open Go.RowKit
set_option maxRecDepth 100000

/-- A slice of truths is read off. -/
structure RdT (w : World) (A : Option Addr) (n : Nat) (f : Nat → Bool) : Prop where
  at_ : ∀ i, i < n → ∃ ad, A = some ad ∧ w.cell? (ad.add i) = some (.bool (f i))
/-- An order that is being made: its cells, and the order's block apart from all else. -/
structure St (w : World) (S O : Nat) (x : List Int) (A : Option Addr) (ca : Nat) (B : Option Addr) (cb : Nat) (f : Nat → Bool) : Prop where
  s : Blk w S 78 #[.slice A x.length ca, .slice B x.length cb, .slice (some ⟨O, 0, none⟩) x.length x.length]
  rd : Rd w .i64 A ca x
  kd : RdT w B x.length f
  so : S ≠ O
  ao : ∀ ad, A = some ad → ad.block ≠ O
  bo : ∀ ad, B = some ad → ad.block ≠ O
theorem add_block (ad : Addr) (i : Nat) : (ad.add i).block = ad.block := by
  unfold Addr.add
  split <;> rfl
theorem St.upx {w w' : World} {S O : Nat} {x : List Int} {A : Option Addr} {ca : Nat} {B : Option Addr} {cb : Nat} {f : Nat → Bool} (h : St w S O x A ca B cb f) (hu : UpX (fun b => b = O) w w') : St w' S O x A ca B cb f where
  s := h.s.upx hu h.so
  rd := h.rd.upx hu fun ad e _ => h.ao ad e
  kd := ⟨fun i hi => by
    obtain ⟨ad, e, hc⟩ := h.kd.at_ i hi
    exact ⟨ad, e, hu.cell hc (by rw [add_block]; exact h.bo ad e)⟩⟩
  so := h.so
  ao := h.ao
  bo := h.bo

theorem indLast_calls (S O : Nat) (x : List Int) (A : Option Addr) (ca : Nat) (B : Option Addr) (cb : Nat) (f : Nat → Bool) (w : World) (h : St w S O x A ca B cb f) (hl : x.length ≤ 65536) :
    Calls Try.prog 82 #[.pointer (some ⟨S, 0, none⟩)] w fun e w' => e = .returned (.int .i64 ((x.length : Int) - 1)) ∧ w' = w := by
  have h0 := h.s.cell 0
  have h0' : w.cell? ⟨S, 0, none⟩ = some (.slice A x.length ca) := by simpa using h0
  clear h0
  go_enter Try.func82, Try.ntmps82
  go_wp2_with fail
  go_ret
  exact ⟨rfl, rfl⟩

/-- The first k are cleared. -/
def clrK (n : Nat) (f : Nat → Bool) (o : List Int) (k : Nat) : List Int := (o.take k).map (fun v => if v ≠ -1 ∧ v ≠ ((n - 1 : Nat) : Int) ∧ f v.toNat = true then -1 else v) ++ o.drop k
theorem clrK_len (n : Nat) (f : Nat → Bool) (o : List Int) (k : Nat) : (clrK n f o k).length = o.length := by unfold clrK; simp; omega
theorem clrK_zero (n : Nat) (f : Nat → Bool) (o : List Int) : clrK n f o 0 = o := by simp [clrK]
theorem clrK_all (x o : List Int) (h : o.length = x.length) : clrK x.length (Ind.knd x) o x.length = Ind.clr x o := by
  unfold clrK Ind.clr
  rw [← h]
  simp
theorem clrK_get (n : Nat) (f : Nat → Bool) (o : List Int) (k : Nat) (h : k < o.length) : (clrK n f o k).getD k 0 = o.getD k 0 := by
  unfold clrK
  rw [List.getD_eq_getElem?_getD, List.getD_eq_getElem?_getD, List.getElem?_append_right (by simp; omega)]
  simp [show min k o.length = k by omega]
theorem clrK_step (n : Nat) (f : Nat → Bool) (o : List Int) (k : Nat) (h : k < o.length) : clrK n f o (k + 1) = (clrK n f o k).set k (if o.getD k 0 ≠ -1 ∧ o.getD k 0 ≠ ((n - 1 : Nat) : Int) ∧ f (o.getD k 0).toNat = true then -1 else o.getD k 0) := by
  have hg : o.getD k 0 = o[k] := by simp [List.getD_eq_getElem?_getD, h]
  unfold clrK
  rw [List.take_succ_eq_append_getElem h, List.map_append, List.append_assoc, List.set_append_right _ _ (by simp; omega)]
  simp only [List.length_map, List.length_take, show min k o.length = k by omega, Nat.sub_self]
  rw [hg]
  have e : List.drop k o = o[k] :: List.drop (k + 1) o := List.drop_eq_getElem_cons h
  rw [e, List.set_cons_zero]
  rfl
theorem clrK_same (n : Nat) (f : Nat → Bool) (o : List Int) (k : Nat) (h : k < o.length) (hn : ¬ (o.getD k 0 ≠ -1 ∧ o.getD k 0 ≠ ((n - 1 : Nat) : Int) ∧ f (o.getD k 0).toNat = true)) : clrK n f o (k + 1) = clrK n f o k := by
  rw [clrK_step n f o k h, if_neg hn, ← clrK_get n f o k h]
  refine List.ext_getElem (by simp) fun d h1 h2 => ?_
  rw [List.getElem_set]
  split
  · next e => subst e; simp [List.getD_eq_getElem?_getD, h2]
  · rfl

set_option maxHeartbeats 4000000 in
theorem indClear_calls (S O : Nat) (x : List Int) (A : Option Addr) (ca : Nat) (B : Option Addr) (cb : Nat) (f : Nat → Bool) (w : World) (hst : St w S O x A ca B cb f) (hl : x.length ≤ 65536)
    (o : List Int) (ho : o.length = x.length) (HO : Hid (∀ k, k < o.length → -1 ≤ o.getD k 0 ∧ o.getD k 0 < (x.length : Int))) (hb : Blk w O 3 (cellsOf .i64 o)) :
    Calls Try.prog 65 #[.pointer (some ⟨S, 0, none⟩)] w fun e w' => e = .returned (.tuple #[]) ∧ Blk w' O 3 (cellsOf .i64 (clrK x.length f o x.length)) ∧ UpX (fun b => b = O) w w' := by
  have hS2 := hst.s.cell 2
  go_enter Try.func65, Try.ntmps65
  go_wp2_with fail
  go_loopw [2, 3, 9] (fun _ _ i wr => ∃ k : Nat, k ≤ x.length ∧ i = .int .i64 k ∧ Blk wr O 3 (cellsOf .i64 (clrK x.length f o k)) ∧ UpX (fun b => b = O) w wr) (fun _ _ i _ => x.length - (intOf i).toNat)
  case atStart => exact ⟨0, by omega, rfl, by rw [clrK_zero]; exact hb, UpX.refl _ _⟩
  case round =>
    clear hS2 hb
    obtain ⟨k, hk, rfl, hb, hU⟩ := hrel
    by_cases hlt : k < x.length
    · have hst' := hst.upx hU
      have hS1 := hst'.s.cell 1
      have hS2 := hst'.s.cell 2
      have HC := Lib.hid (indLast_calls S O x A ca B cb f wr hst' hl)
      have hg := (hb.cell k).trans (cellsOf_get _ _ k (by rw [clrK_len, ho]; exact hlt))
      rw [clrK_get _ _ _ _ (by rw [ho]; exact hlt)] at hg
      have hf := hb.frozen k
      obtain ⟨hv1, hv2⟩ := HO.out k (by rw [ho]; exact hlt)
      have HS := Lib.hid (clrK_same x.length f o k (by rw [ho]; exact hlt))
      have HT := Lib.hid (clrK_step x.length f o k (by rw [ho]; exact hlt))
      generalize o.getD k 0 = v at *
      by_cases hv : v = -1
      · subst hv
        have HS' := Lib.hid (HS.out (by simp))
        go_wp2_with fail
        refine ⟨⟨k + 1, by omega, by simp, by rw [HS'.out]; exact hb, hU⟩, ?_⟩
        simp [intOf]; omega
      · have hv0 : 0 ≤ v := by omega
        obtain ⟨n, rfl⟩ := Int.eq_ofNat_of_zero_le hv0
        have hn : n < x.length := by omega
        obtain ⟨ad, eB, hcB⟩ := hst'.kd.at_ n hn
        subst eB
        clear hv0 hv1 hv2
        by_cases hl1 : (n : Int) = (x.length : Int) - 1
        · have HS' := Lib.hid (HS.out (by omega))
          go_wp2_with fail
          refine (HC.out).mono ?_
          rintro en w' ⟨rfl, rfl⟩
          go_wp2_with fail
          refine ⟨⟨k + 1, by omega, by simp, by rw [HS'.out]; exact hb, hU⟩, ?_⟩
          simp [intOf]; omega
        · have hb1 : ((n : Int) == (x.length : Int) - 1) = false := by simpa using hl1
          have hb2 : ((n : Int) != (x.length : Int) - 1) = true := by simpa using hl1
          cases hfb : f n with
          | false =>
            have HS' := Lib.hid (HS.out (by simp [hfb]))
            rw [hfb] at hcB
            go_wp2_with fail
            refine (HC.out).mono ?_
            rintro en w' ⟨rfl, rfl⟩
            go_wp2_with fail
            refine ⟨⟨k + 1, by omega, by simp, by rw [HS'.out]; exact hb, hU⟩, ?_⟩
            simp [intOf]; omega
          | true =>
            have HT' := Lib.hid (HT.out.trans (by rw [if_pos ⟨hv, by omega, by simpa using hfb⟩]))
            rw [hfb] at hcB
            go_wp2_with fail
            refine (HC.out).mono ?_
            rintro en w' ⟨rfl, rfl⟩
            go_wp2_with fail
            · refine ⟨⟨k + 1, by omega, by simp, by rw [HT'.out, ← cellsOf_set]; exact hb.set k _, hU.setCell (fun _ => rfl) _⟩, ?_⟩
              simp [intOf]; omega
    · have hke : k = x.length := by omega
      subst hke
      go_wp2_with fail
      exact bodyPost_end (results_none rfl _ _ _) rfl ⟨rfl, hb, hU⟩
end Go.Proofs.Ytmmacpicbonhhaa

/- The walk of induce.state's larger. -/
namespace Go.Proofs.Ytmmacpicbonhhaa
open Go.RowKit
set_option maxRecDepth 100000

theorem range_getD (x : List Int) : (List.range x.length).map (fun i => x.getD i 0) = x := by
  refine List.ext_getElem (by simp) fun d h1 h2 => ?_
  simp [List.getD_eq_getElem?_getD, h2]
theorem cnt_list (x : List Int) (p : Int → Bool) : Ind.cnt x (fun i => p (x.getD i 0)) = (x.filter p).length := by
  unfold Ind.cnt
  have : x.filter p = ((List.range x.length).filter (fun i => p (x.getD i 0))).map (fun i => x.getD i 0) := by
    have e := List.filter_map (f := fun i => x.getD i 0) (p := p) (l := List.range x.length)
    rw [range_getD] at e
    exact e
  rw [this, List.length_map]
theorem hd_list (x : List Int) (c : Int) : Ind.hd x c = hdC x c := cnt_list x fun y => decide (y < c)
theorem tl_list (x : List Int) (c : Int) : Ind.tl x c = hdC x (c + 1) := by
  have := cnt_list x fun y => decide (y ≤ c)
  unfold hdC
  rw [show (fun y : Int => decide (y < c + 1)) = fun y => decide (y ≤ c) by funext y; simp [Int.lt_add_one_iff]]
  exact this
/-- Counters as a list. -/
def ctr (m : Nat) (t : Int → Nat) : List Int := (List.range m).map fun (c : Nat) => (t (c : Int) : Int)
theorem ctr_len (m : Nat) (t : Int → Nat) : (ctr m t).length = m := mapR_len _ _
theorem ctr_get (m : Nat) (t : Int → Nat) (c : Nat) (h : c < m) : (ctr m t).getD c 0 = (t (c : Int) : Int) := mapR_get _ _ _ h
theorem ctr_set (m : Nat) (t : Int → Nat) (c v : Nat) : (ctr m t).set c (v : Int) = ctr m (Ind.upd t (c : Int) v) := by
  have := mapR_set m (fun d : Nat => (t (d : Int) : Int)) (fun d : Nat => ((Ind.upd t (c : Int) v) (d : Int) : Int)) c fun d _ hne => by
    simp only [Ind.upd]
    rw [if_neg (by omega)]
  unfold ctr
  rw [← this]
  simp [Ind.upd]
theorem heads_ctr (x : List Int) (m : Nat) : headsUp x m m = ctr m (Ind.hd x) := by
  unfold headsUp ctr
  refine List.ext_getElem (by simp) fun d h1 h2 => ?_
  have : d < m := by simpa using h1
  simp [this, hd_list]
theorem tails_ctr (x : List Int) (m : Nat) : tailsUp x m m = ctr m (Ind.tl x) := by
  unfold tailsUp ctr
  refine List.ext_getElem (by simp) fun d h1 h2 => ?_
  have : d < m := by simpa using h1
  simp [this, tl_list]
theorem getD_def (l : List Int) (k : Nat) (a b : Int) (h : k < l.length) : l.getD k a = l.getD k b := by
  simp [List.getD_eq_getElem?_getD, h]

set_option maxHeartbeats 4000000 in
theorem indLarger_calls (S O b off : Nat) (x : List Int) (ca : Nat) (B : Option Addr) (cb : Nat) (w : World) (hst : St w S O x (some ⟨b, off, none⟩) ca B cb (Ind.knd x)) (hx : 0 < x.length) (hl : x.length ≤ 65536)
    (m : Nat) (HM : Hid (Lib.maxOf x + 1 = (m : Int))) (hm : m ≤ 65536) (HR : Hid (∀ y ∈ x, 0 ≤ y ∧ y < (m : Int)))
    (o : List Int) (hb : Blk w O 3 (cellsOf .i64 o))
    (HI : Hid (∀ k, k < x.length → (Ind.lgN x o k).1.length = x.length ∧ -1 ≤ (Ind.lgN x o k).1.getD k (-1) ∧ (Ind.lgN x o k).1.getD k (-1) ≤ (x.length : Int) ∧
      (0 ≤ (Ind.lgN x o k).1.getD k (-1) - 1 → Ind.knd x ((Ind.lgN x o k).1.getD k (-1) - 1).toNat = false → (Ind.lgN x o k).2 (x.getD ((Ind.lgN x o k).1.getD k (-1) - 1).toNat 0) < x.length))) :
    Calls Try.prog 64 #[.pointer (some ⟨S, 0, none⟩)] w fun e w' => e = .returned (.tuple #[]) ∧ Blk w' O 3 (cellsOf .i64 (Ind.lgN x o x.length).1) ∧ UpX (fun b => b = O) w w' := by
  have HB := Lib.hid (buckets_calls b off ca x w hst.rd hx hl m HM hm HR)
  clear HM
  have h0 : w.cell? ⟨S, 0, none⟩ = some (.slice (some ⟨b, off, none⟩) x.length ca) := by simpa using hst.s.cell 0
  have hOlt := hb.lt
  go_enter Try.func64, Try.ntmps64
  go_wp2_with fail
  go_step3
  go_wp2_with fail
  refine (HB.out).mono ?_
  rintro en w1 ⟨H, T, rfl, hne, hHlo, hTlo, hbH, hbT, hu1⟩
  clear HB hbT hne hTlo h0
  rw [heads_ctr] at hbH
  have hs1 := hst.s.up hu1
  have hS2 : w1.cell? ⟨S, 2, none⟩ = some (.slice (some ⟨O, 0, none⟩) x.length x.length) := by simpa using hs1.cell 2
  clear hs1
  go_wp2_with fail
  go_step3
  go_wp2_with fail
  clear hS2
  generalize (some ⟨b, off, none⟩ : Option Addr) = A at *
  go_loopw [4, 5, 19] (fun _ _ i wr => ∃ k : Nat, k ≤ x.length ∧ i = .int .i64 k ∧ Blk wr O 3 (cellsOf .i64 (Ind.lgN x o k).1) ∧ Blk wr H 3 (cellsOf .i64 (ctr m (Ind.lgN x o k).2)) ∧ UpX (fun b => b = O) w wr) (fun _ _ i _ => x.length - (intOf i).toNat)
  case atStart => exact ⟨0, by omega, rfl, hb.up hu1, hbH, hu1.x _⟩
  case round =>
    clear hbH hb hu1
    obtain ⟨k, hk, rfl, hbO, hbH, hU⟩ := hrel
    by_cases hlt : k < x.length
    · obtain ⟨hlen, hv1, hv2, hv3⟩ := HI.out k hlt
      have hst' := hst.upx hU
      have hS0 : wr.cell? ⟨S, 0, none⟩ = some (.slice A x.length ca) := by simpa using hst'.s.cell 0
      have hS1 : wr.cell? ⟨S, 1, none⟩ = some (.slice B x.length cb) := by simpa using hst'.s.cell 1
      have hS2 : wr.cell? ⟨S, 2, none⟩ = some (.slice (some ⟨O, 0, none⟩) x.length x.length) := by simpa using hst'.s.cell 2
      have HLS := Lib.hid (show Ind.lgN x o (k + 1) = Ind.lgS x (Ind.lgN x o k) k from rfl)
      generalize Ind.lgN x o k = st at *
      obtain ⟨p, t⟩ := st
      simp only at hlen hv1 hv2 hv3 hbO hbH
      have hg := (hbO.cell k).trans (cellsOf_get _ _ k (by omega))
      rw [getD_def p k 0 (-1) (by omega)] at hg
      have HLS2 := HLS.out
      unfold Ind.lgS at HLS2
      simp only at HLS2
      generalize p.getD k (-1) = v at *
      clear HLS
      have HLS := Lib.hid HLS2
      clear HLS2
      by_cases hv : v - 1 < 0
      · have HE := Lib.hid (HLS.out.trans (if_pos hv))
        clear HLS hv3
        go_wp2_with fail
        refine ⟨⟨k + 1, by omega, by simp, by rw [HE.out]; exact hbO, by rw [HE.out]; exact hbH, hU⟩, ?_⟩
        simp [intOf]; omega
      · have hv0 : 0 ≤ v - 1 := by omega
        obtain ⟨n, hn⟩ := Int.eq_ofNat_of_zero_le hv0
        have hvn : v = (n : Int) + 1 := by omega
        subst hvn
        clear hn hv1
        have hnl : n < x.length := by omega
        have hne1 : ((n : Int) + 1 - 1).toNat = n := by omega
        have hne2 : (n : Int) + 1 - 1 = (n : Int) := by omega
        rw [hne1] at hv3
        have HLS2 := HLS.out
        rw [if_neg hv, hne1, hne2] at HLS2
        clear HLS hne1 hv hv0 hv2
        rw [hne2] at hv3
        obtain ⟨adB, eB, hcB⟩ := hst'.kd.at_ n hnl
        subst eB
        cases hkd : Ind.knd x n with
        | true =>
          rw [if_pos hkd] at HLS2
          have HE := Lib.hid HLS2
          rw [hkd] at hcB
          clear HLS2 hv3
          go_wp2_with fail
          refine ⟨⟨k + 1, by omega, by simp, by rw [HE.out]; exact hbO, by rw [HE.out]; exact hbH, hU⟩, ?_⟩
          simp [intOf]; omega
        | false =>
          rw [if_neg (by rw [hkd]; simp)] at HLS2
          rw [hkd] at hcB
          have hh := hv3 (by omega) hkd
          clear hv3
          obtain ⟨ad, y, rfl, hc, HX, _⟩ := hst'.rd.get n hnl
          have hmem : y ∈ x := by
            rw [← HX.out, List.getD_eq_getElem?_getD, List.getElem?_eq_getElem hnl]; exact List.getElem_mem hnl
          obtain ⟨hy0, hy1⟩ := HR.out y hmem
          clear hmem
          obtain ⟨c, rfl⟩ := Int.eq_ofNat_of_zero_le hy0
          have hcm : c < m := by omega
          rw [HX.out] at hh HLS2
          have hgH := (hbH.cell c).trans (cellsOf_get _ _ c (by rw [ctr_len]; exact hcm))
          rw [ctr_get _ _ _ hcm] at hgH
          have HCS := Lib.hid (ctr_set m t c (t (c : Int) + 1))
          have HE := Lib.hid HLS2
          clear HLS2 hy0 hy1 HX
          obtain ⟨h, hhe⟩ : ∃ h, t (c : Int) = h := ⟨_, rfl⟩
          rw [hhe] at hgH hh HCS HE
          have hgO := (hbO.cell h).trans (cellsOf_get _ _ h (by omega))
          generalize p.getD h 0 = pv at hgO
          have hfO := hbO.frozen h
          have hHO : H ≠ O := by omega
          have HBO := Lib.hid hbO
          have HBH := Lib.hid hbH
          clear hbO hbH
          go_wp2_with fail
          refine wp_region_tree (Cells [(⟨S, 2, none⟩, .slice (some ⟨O, 0, none⟩) x.length x.length), (⟨S, 0, none⟩, .slice (some ad) x.length ca), (ad.add n, .int .i64 (c : Int)), (⟨H, c, none⟩, .int .i64 (h : Int))]) (.quiet 0 (.quiet 1 (.quiet 2 (.quiet 3 (.quiet 4 (.quiet 5 (.quiet 6 (.quiet 7 (.quiet 8 (.quiet 9 (.quiet 10 (.quiet 11 (.quiet 12 (.quiet 13 (.quiet 14 (.quiet 15 (.alt 16 (.nil) (.stop)))))))))))))))))) (by kernel_rfl) (by kernel_rfl) rfl (by kernel_rfl) (by kernel_rfl) (Cells.cons hS2 (Cells.cons hS0 (Cells.cons hc (Cells.cons hgH (Cells.nil _))))) ?_
          simp only [pickT, List.getElem?_cons_succ, List.getElem?_cons_zero, Option.getD_some]
          repeat (refine tree_step rfl (fun K hK => ?_); go_big_quiet_step ((intro _; rfl)); refine wpQuiet_nil (hK _ ?_); clear hK K)
          refine tree_load ⟨S, 2, none⟩ (.slice (some ⟨O, 0, none⟩) x.length x.length) (by kernel_rfl) rfl (by kernel_rfl) (fun w' h => h.head) ?_
          dsimp only [Act.put]
          simp only [List.setIfInBounds_toArray, List.set_cons_zero, List.set_cons_succ]
          repeat (refine tree_step rfl (fun K hK => ?_); go_big_quiet_step ((intro _; rfl)); refine wpQuiet_nil (hK _ ?_); clear hK K)
          refine tree_load ⟨S, 0, none⟩ (.slice (some ad) x.length ca) (by kernel_rfl) rfl (by kernel_rfl) (fun w' h => h.tail.head) ?_
          dsimp only [Act.put]
          simp only [List.setIfInBounds_toArray, List.set_cons_zero, List.set_cons_succ]
          repeat (refine tree_step rfl (fun K hK => ?_); go_big_quiet_step ((intro _; rfl)); refine wpQuiet_nil (hK _ ?_); clear hK K)
          refine tree_load (ad.add n) (.int .i64 (c : Int)) (by kernel_rfl) rfl (by kernel_rfl) (fun w' h => h.tail.tail.head) ?_
          dsimp only [Act.put]
          simp only [List.setIfInBounds_toArray, List.set_cons_zero, List.set_cons_succ]
          repeat (refine tree_step rfl (fun K hK => ?_); go_big_quiet_step ((intro _; rfl)); refine wpQuiet_nil (hK _ ?_); clear hK K)
          refine tree_load ⟨H, c, none⟩ (.int .i64 (h : Int)) (by kernel_rfl) rfl (by kernel_rfl) (fun w' h => h.tail.tail.tail.head) ?_
          dsimp only [Act.put]
          simp only [List.setIfInBounds_toArray, List.set_cons_zero, List.set_cons_succ]
          repeat (refine tree_step rfl (fun K hK => ?_); go_big_quiet_step ((intro _; rfl)); refine wpQuiet_nil (hK _ ?_); clear hK K)
          refine tree_do (fun K hK => ?_)
          go_wp2_with fail
          refine ⟨trivial, ?_⟩
          refine tree_nil ?_
          have hx1 : UpX (fun b => b = O) wr (wr.setCell ⟨O, h, none⟩ (.int .i64 (n : Int))).drew := (UpX.one _ _ _ _).drew
          have hst2 := hst'.upx hx1
          have hbO2 := (HBO.out.set h (.int .i64 (n : Int))).drew
          rw [cellsOf_set] at hbO2
          have hbH2 := (HBH.out.other ⟨O, h, none⟩ (.int .i64 (n : Int)) hHO).drew
          have hc2 := hx1.cell hc (by rw [add_block]; exact hst'.ao ad rfl)
          have hUU := hU.trans hx1
          clear HBO HBH hc hS0 hS1 hS2 hgH hgO hfO hst' hx1 hcB hg hU
          generalize (wr.setCell ⟨O, h, none⟩ (.int .i64 (n : Int))).drew = w2 at *
          have hS0 : w2.cell? ⟨S, 0, none⟩ = some (.slice (some ad) x.length ca) := by simpa using hst2.s.cell 0
          have hgH := (hbH2.cell c).trans (cellsOf_get _ _ c (by rw [ctr_len]; exact hcm))
          rw [ctr_get _ _ _ hcm, hhe] at hgH
          have hfH := hbH2.frozen c
          have HBO := Lib.hid hbO2
          have HBH := Lib.hid hbH2
          clear hbO2 hbH2 hst2
          go_wp2_with fail
          refine ⟨⟨k + 1, by omega, by simp, ?_, ?_, ?_⟩, ?_⟩
          · rw [HE.out]; exact HBO.out.other _ _ (Ne.symm hHO)
          · rw [HE.out]
            have := HBH.out.set c (.int .i64 ((h : Int) + 1))
            rw [cellsOf_set] at this
            have e := HCS.out
            rw [Int.natCast_add] at e
            exact e ▸ this
          · exact hUU.setCell (fun hlt => absurd hlt (by show ¬ H < w.heap.size; omega)) _
          · simp [intOf]; omega
    · have hke : k = x.length := by omega
      subst hke
      go_wp2_with fail
      rw [Exit.noGoto_normal]
      exact bodyPost_end (results_none rfl _ _ _) rfl ⟨rfl, hbO, hU⟩
end Go.Proofs.Ytmmacpicbonhhaa

/- The walk of induce.state's smaller. -/
namespace Go.Proofs.Ytmmacpicbonhhaa
open Go.RowKit
set_option maxRecDepth 100000

theorem smN_step (x o : List Int) (r : Nat) (h : r < x.length) : Ind.smN x o (x.length - r) = Ind.smS x (Ind.smN x o (x.length - (r + 1))) r := by
  have e : x.length - r = (x.length - (r + 1)) + 1 := by omega
  rw [e]
  show Ind.smS x (Ind.smN x o (x.length - (r + 1))) (x.length - 1 - (x.length - (r + 1))) = _
  rw [show x.length - 1 - (x.length - (r + 1)) = r by omega]

set_option maxHeartbeats 4000000 in
theorem indSmaller_calls (S O b off : Nat) (x : List Int) (ca : Nat) (B : Option Addr) (cb : Nat) (w : World) (hst : St w S O x (some ⟨b, off, none⟩) ca B cb (Ind.knd x)) (hx : 0 < x.length) (hl : x.length ≤ 65536)
    (m : Nat) (HM : Hid (Lib.maxOf x + 1 = (m : Int))) (hm : m ≤ 65536) (HR : Hid (∀ y ∈ x, 0 ≤ y ∧ y < (m : Int)))
    (o : List Int) (hb : Blk w O 3 (cellsOf .i64 o))
    (HI : Hid (∀ r, r < x.length → (Ind.smN x o (x.length - (r + 1))).1.length = x.length ∧ -1 ≤ (Ind.smN x o (x.length - (r + 1))).1.getD r (-1) ∧ (Ind.smN x o (x.length - (r + 1))).1.getD r (-1) ≤ (x.length : Int) ∧
      (0 ≤ (Ind.smN x o (x.length - (r + 1))).1.getD r (-1) - 1 → Ind.knd x ((Ind.smN x o (x.length - (r + 1))).1.getD r (-1) - 1).toNat = true → 1 ≤ (Ind.smN x o (x.length - (r + 1))).2 (x.getD ((Ind.smN x o (x.length - (r + 1))).1.getD r (-1) - 1).toNat 0) ∧ (Ind.smN x o (x.length - (r + 1))).2 (x.getD ((Ind.smN x o (x.length - (r + 1))).1.getD r (-1) - 1).toNat 0) ≤ x.length))) :
    Calls Try.prog 66 #[.pointer (some ⟨S, 0, none⟩)] w fun e w' => e = .returned (.tuple #[]) ∧ Blk w' O 3 (cellsOf .i64 (Ind.smN x o x.length).1) ∧ UpX (fun b => b = O) w w' := by
  have HB := Lib.hid (buckets_calls b off ca x w hst.rd hx hl m HM hm HR)
  clear HM
  have h0 : w.cell? ⟨S, 0, none⟩ = some (.slice (some ⟨b, off, none⟩) x.length ca) := by simpa using hst.s.cell 0
  have hOlt := hb.lt
  go_enter Try.func66, Try.ntmps66
  go_wp2_with fail
  go_step3
  go_wp2_with fail
  refine (HB.out).mono ?_
  rintro en w1 ⟨H, T, rfl, hne, hHlo, hTlo, hbH, hbT, hu1⟩
  clear HB hbH hne hHlo h0
  rw [tails_ctr] at hbT
  have hs1 := hst.s.up hu1
  have hS2 : w1.cell? ⟨S, 2, none⟩ = some (.slice (some ⟨O, 0, none⟩) x.length x.length) := by simpa using hs1.cell 2
  clear hs1
  go_wp2_with fail
  go_step3
  go_wp2_with fail
  clear hS2
  generalize (some ⟨b, off, none⟩ : Option Addr) = A at *
  go_loopw [4, 5] (fun i _ wr => ∃ q : Nat, q ≤ x.length ∧ i = .int .i64 ((q : Int) - 1) ∧ Blk wr O 3 (cellsOf .i64 (Ind.smN x o (x.length - q)).1) ∧ Blk wr T 3 (cellsOf .i64 (ctr m (Ind.smN x o (x.length - q)).2)) ∧ UpX (fun b => b = O) w wr) (fun i _ _ => (intOf i + 1).toNat)
  case atStart => exact ⟨x.length, by omega, rfl, by rw [Nat.sub_self]; exact hb.up hu1, by rw [Nat.sub_self]; exact hbT, hu1.x _⟩
  case round =>
    clear hbT hb hu1
    obtain ⟨q, hk, rfl, hbO, hbT, hU⟩ := hrel
    cases q with
    | succ k =>
      have hlt : k < x.length := by omega
      have hkk : ((k + 1 : Nat) : Int) - 1 = (k : Int) := by omega
      rw [hkk]
      clear hkk hk
      obtain ⟨hlen, hv1, hv2, hv3⟩ := HI.out k hlt
      have hst' := hst.upx hU
      have hS0 : wr.cell? ⟨S, 0, none⟩ = some (.slice A x.length ca) := by simpa using hst'.s.cell 0
      have hS1 : wr.cell? ⟨S, 1, none⟩ = some (.slice B x.length cb) := by simpa using hst'.s.cell 1
      have hS2 : wr.cell? ⟨S, 2, none⟩ = some (.slice (some ⟨O, 0, none⟩) x.length x.length) := by simpa using hst'.s.cell 2
      have HLS := Lib.hid (smN_step x o k hlt)
      generalize Ind.smN x o (x.length - (k + 1)) = st at *
      obtain ⟨p, t⟩ := st
      simp only at hlen hv1 hv2 hv3 hbO hbT
      have hg := (hbO.cell k).trans (cellsOf_get _ _ k (by omega))
      rw [getD_def p k 0 (-1) (by omega)] at hg
      have HLS2 := HLS.out
      unfold Ind.smS at HLS2
      simp only at HLS2
      generalize p.getD k (-1) = v at *
      clear HLS
      have HLS := Lib.hid HLS2
      clear HLS2
      by_cases hv : v - 1 < 0
      · have HE := Lib.hid (HLS.out.trans (if_pos hv))
        clear HLS hv3
        go_wp2_with fail
        refine ⟨⟨k, by omega, by simp, by rw [HE.out]; exact hbO, by rw [HE.out]; exact hbT, hU⟩, ?_⟩
        simp [intOf]
      · have hv0 : 0 ≤ v - 1 := by omega
        obtain ⟨n, hn⟩ := Int.eq_ofNat_of_zero_le hv0
        have hvn : v = (n : Int) + 1 := by omega
        subst hvn
        clear hn hv1
        have hnl : n < x.length := by omega
        have hne1 : ((n : Int) + 1 - 1).toNat = n := by omega
        have hne2 : (n : Int) + 1 - 1 = (n : Int) := by omega
        rw [hne1] at hv3
        have HLS2 := HLS.out
        rw [if_neg hv, hne1, hne2] at HLS2
        clear HLS hne1 hv hv0 hv2
        rw [hne2] at hv3
        obtain ⟨adB, eB, hcB⟩ := hst'.kd.at_ n hnl
        subst eB
        cases hkd : Ind.knd x n with
        | false =>
          rw [if_neg (by rw [hkd]; simp)] at HLS2
          have HE := Lib.hid HLS2
          rw [hkd] at hcB
          clear HLS2 hv3
          go_wp2_with fail
          refine ⟨⟨k, by omega, by simp, by rw [HE.out]; exact hbO, by rw [HE.out]; exact hbT, hU⟩, ?_⟩
          simp [intOf]
        | true =>
          rw [if_pos hkd] at HLS2
          rw [hkd] at hcB
          obtain ⟨hh1, hh⟩ := hv3 (by omega) hkd
          clear hv3
          obtain ⟨ad, y, rfl, hc, HX, _⟩ := hst'.rd.get n hnl
          have hmem : y ∈ x := by
            rw [← HX.out, List.getD_eq_getElem?_getD, List.getElem?_eq_getElem hnl]; exact List.getElem_mem hnl
          obtain ⟨hy0, hy1⟩ := HR.out y hmem
          clear hmem
          obtain ⟨c, rfl⟩ := Int.eq_ofNat_of_zero_le hy0
          have hcm : c < m := by omega
          rw [HX.out] at hh hh1 HLS2
          have hgT := (hbT.cell c).trans (cellsOf_get _ _ c (by rw [ctr_len]; exact hcm))
          rw [ctr_get _ _ _ hcm] at hgT
          have hfT := hbT.frozen c
          have HE := Lib.hid HLS2
          clear HLS2 hy0 hy1
          obtain ⟨h, hhe⟩ : ∃ h, t (c : Int) = h + 1 := ⟨t (c : Int) - 1, by omega⟩
          have HCS := Lib.hid (ctr_set m t c h)
          rw [hhe] at hgT hh HE
          rw [Nat.add_sub_cancel] at HE
          have hTO : T ≠ O := by omega
          have he1 : ((h + 1 : Nat) : Int) = (h : Int) + 1 := by omega
          rw [he1] at hgT
          have he2 : (h : Int) + 1 - 1 = (h : Int) := by omega
          clear hh1 he1
          have hx1 : UpX (fun b => b = T) wr (wr.setCell ⟨T, c, none⟩ (.int .i64 (h : Int))) := UpX.one _ _ _ _
          have hbT2 := hbT.set c (.int .i64 (h : Int))
          rw [cellsOf_set, HCS.out] at hbT2
          have hbO2 := hbO.other ⟨T, c, none⟩ (.int .i64 (h : Int)) (Ne.symm hTO)
          have hU2 : UpX (fun b => b = O) w (wr.setCell ⟨T, c, none⟩ (.int .i64 (h : Int))) := hU.setCell (fun hlt => absurd hlt (by show ¬ T < w.heap.size; omega)) _
          have HBT := Lib.hid hbT2
          have HBO := Lib.hid hbO2
          have HU2 := Lib.hid hU2
          clear hbT hbO hbT2 hbO2 hx1 hU2 hst'
          go_wp2_with fail
          clear hcB hg hU hS0 hS1 hS2 hc hgT hfT
          have hbT := HBT.out
          have hbO := HBO.out
          have hU := HU2.out
          clear HBT HBO HU2
          generalize wr.setCell ⟨T, c, none⟩ (.int .i64 (h : Int)) = w2 at *
          have hst2 := hst.upx hU
          have hS0 : w2.cell? ⟨S, 0, none⟩ = some (.slice (some ad) x.length ca) := by simpa using hst2.s.cell 0
          have hS2 : w2.cell? ⟨S, 2, none⟩ = some (.slice (some ⟨O, 0, none⟩) x.length x.length) := by simpa using hst2.s.cell 2
          have hc := hst2.rd.cell ad rfl n hnl
          rw [HX.out] at hc
          have hgT := (hbT.cell c).trans (cellsOf_get _ _ c (by rw [ctr_len]; exact hcm))
          rw [ctr_get _ _ _ hcm, show Ind.upd t (c : Int) h (c : Int) = h by simp [Ind.upd]] at hgT
          have hgO := (hbO.cell h).trans (cellsOf_get _ _ h (by omega))
          generalize p.getD h 0 = pv at hgO
          have hfO := hbO.frozen h
          have HBO := Lib.hid hbO
          have HBT := Lib.hid hbT
          clear hbO hbT hst2 HX
          refine wp_region_tree (Cells [(⟨S, 2, none⟩, .slice (some ⟨O, 0, none⟩) x.length x.length), (⟨S, 0, none⟩, .slice (some ad) x.length ca), (ad.add n, .int .i64 (c : Int)), (⟨T, c, none⟩, .int .i64 (h : Int))]) (.quiet 0 (.quiet 1 (.quiet 2 (.quiet 3 (.quiet 4 (.quiet 5 (.quiet 6 (.quiet 7 (.quiet 8 (.quiet 9 (.quiet 10 (.quiet 11 (.quiet 12 (.quiet 13 (.quiet 14 (.quiet 15 (.alt 16 (.nil) (.stop)))))))))))))))))) (by kernel_rfl) (by kernel_rfl) rfl (by kernel_rfl) (by kernel_rfl) (Cells.cons hS2 (Cells.cons hS0 (Cells.cons hc (Cells.cons hgT (Cells.nil _))))) ?_
          simp only [pickT, List.getElem?_cons_succ, List.getElem?_cons_zero, Option.getD_some]
          repeat (refine tree_step rfl (fun K hK => ?_); go_big_quiet_step ((intro _; rfl)); refine wpQuiet_nil (hK _ ?_); clear hK K)
          refine tree_load ⟨S, 2, none⟩ (.slice (some ⟨O, 0, none⟩) x.length x.length) (by kernel_rfl) rfl (by kernel_rfl) (fun w' h => h.head) ?_
          dsimp only [Act.put]
          simp only [List.setIfInBounds_toArray, List.set_cons_zero, List.set_cons_succ]
          repeat (refine tree_step rfl (fun K hK => ?_); go_big_quiet_step ((intro _; rfl)); refine wpQuiet_nil (hK _ ?_); clear hK K)
          refine tree_load ⟨S, 0, none⟩ (.slice (some ad) x.length ca) (by kernel_rfl) rfl (by kernel_rfl) (fun w' h => h.tail.head) ?_
          dsimp only [Act.put]
          simp only [List.setIfInBounds_toArray, List.set_cons_zero, List.set_cons_succ]
          repeat (refine tree_step rfl (fun K hK => ?_); go_big_quiet_step ((intro _; rfl)); refine wpQuiet_nil (hK _ ?_); clear hK K)
          refine tree_load (ad.add n) (.int .i64 (c : Int)) (by kernel_rfl) rfl (by kernel_rfl) (fun w' h => h.tail.tail.head) ?_
          dsimp only [Act.put]
          simp only [List.setIfInBounds_toArray, List.set_cons_zero, List.set_cons_succ]
          repeat (refine tree_step rfl (fun K hK => ?_); go_big_quiet_step ((intro _; rfl)); refine wpQuiet_nil (hK _ ?_); clear hK K)
          refine tree_load ⟨T, c, none⟩ (.int .i64 (h : Int)) (by kernel_rfl) rfl (by kernel_rfl) (fun w' h => h.tail.tail.tail.head) ?_
          dsimp only [Act.put]
          simp only [List.setIfInBounds_toArray, List.set_cons_zero, List.set_cons_succ]
          repeat (refine tree_step rfl (fun K hK => ?_); go_big_quiet_step ((intro _; rfl)); refine wpQuiet_nil (hK _ ?_); clear hK K)
          refine tree_do (fun K hK => ?_)
          go_wp2_with fail
          refine ⟨trivial, ?_⟩
          refine tree_nil ?_
          have HUU := Lib.hid ((hU.trans (UpX.one w2 O h (.int .i64 (n : Int)))).drew)
          clear hU hS0 hS2 hc hgT hgO hfO
          go_wp2_with fail
          refine ⟨⟨k, by omega, by simp, ?_, ?_, ?_⟩, ?_⟩
          · rw [HE.out]
            have := (HBO.out.set h (.int .i64 (n : Int))).drew
            rw [cellsOf_set] at this
            exact this
          · rw [HE.out]; exact (HBT.out.other ⟨O, h, none⟩ (.int .i64 (n : Int)) hTO).drew
          · exact HUU.out
          · simp [intOf]
    | zero =>
      go_wp2_with fail
      rw [Exit.noGoto_normal]
      exact bodyPost_end (results_none rfl _ _ _) rfl ⟨rfl, by simpa using hbO, hU⟩
end Go.Proofs.Ytmmacpicbonhhaa

/- slices.Repeat of one number. -/
namespace Go.Proofs.Ytmmacpicbonhhaa
open Go.RowKit
set_option maxRecDepth 100000

theorem laid_rep (v : Int) (k n j : Nat) (h : k + j ≤ n) : laid (List.replicate k v ++ List.replicate (n - k) 0) k (List.replicate j v) = List.replicate (k + j) v ++ List.replicate (n - (k + j)) 0 := by
  unfold laid
  simp [List.drop_append, ← List.append_assoc, List.replicate_append_replicate]
  have := h
  omega

/-- copy(d, s), so much as fits. -/
theorem wpl_copyM {P : Program} {w : World} {ops : Array Oper} {rest : List Oper} {a : Act} {Q : Exit → Act → World → Prop} {dst : Option Tmp} {ty : TypeId} {pos : String} {after : Array Edge}
    {d s : Operand} {dT sT : TypeId} (e : Nat) (k : IntKind) (hu : P.underlying dT = some (.slice e)) (hsz : (P.info? e).map (·.size) = some 1)
    (w0 : World) (g off dn dc : Nat) (xs : List Int) (hd : a.eval d = .slice (some ⟨g, off, none⟩) dn dc) (hg : Blk w g e (cellsOf k xs)) (hU : Up w0 w) (hb : w0.heap.size ≤ g)
    (ad : Addr) (n c : Nat) (ys : List Int) (hs : a.eval s = .slice (some ad) n c) (hn : ys.length = Nat.min n dn) (hr : ∀ j, j < ys.length → w.cell? (ad.add j) = some (.int k (ys.getD j 0))) (hf : off + ys.length ≤ xs.length)
    (h : ∀ w', Blk w' g e (cellsOf k (laid xs off ys)) → Up w0 w' → wpList P ops Q rest (a.put dst (goInt ys.length)) w') :
    wpList P ops Q ({ dst := dst, op := .call { callee := .builtin .copy, args := #[d, s], argTypes := #[dT, sT] }, type := ty, pos := pos, after := after, guard := none } :: rest) a w := by
  refine wpList_copy_splice rfl d s dT sT rfl e hu hsz _ (some ad) dn dc n c hd hs g off (xs.map (Value.int k)) e (by exact hg.out) (ys.map (Value.int k)) (by rw [List.length_map]; exact hn) ?_ (by simpa using hf) (by simp [Value.oneCell']) g w (Below.refl _ _) (Nat.le_refl _) ?_
  · intro h0
    refine ⟨rfl, ad, rfl, fun j v hj => ?_⟩
    obtain ⟨hj1, rfl⟩ := List.getElem?_eq_some_iff.1 hj
    rw [List.length_map] at hj1
    have := hr j hj1
    simpa [List.getD_eq_getElem?_getD, hj1] using this
  · intro w' hw hbl
    rw [List.length_map]
    exact h w' ⟨by rw [hw.out, splice_cells]⟩ ⟨hU.out.trans (hbl.mono hb)⟩

set_option maxHeartbeats 4000000 in
theorem repeat_calls (A : Option Addr) (c : Nat) (v : Int) (n : Nat) (w : World) (h1 : Rd w .i64 A c [v]) (hn : 1 ≤ n) (hl : n ≤ 65536) :
    Calls Try.prog 62 #[.slice A 1 c, .int .i64 n] w fun e w' => ∃ G, e = .returned (.slice (some ⟨G, 0, none⟩) n n) ∧ w.heap.size ≤ G ∧ Blk w' G 3 (cellsOf .i64 (List.replicate n v)) ∧ Up w w' := by
  have HM := fun W : World => Lib.hid (Try.bits_Mul 1 n (by omega) (by omega) W)
  rw [Nat.one_mul, Nat.div_eq_of_lt (by omega), Nat.mod_eq_of_lt (by omega)] at HM
  have hng : (n : Int) ≤ 9223372036854775807 := by omega
  go_enter Try.func62, Try.ntmps62
  go_wp2_with fail
  refine (HM _).out.mono ?_
  rintro en w1 ⟨rfl, rfl⟩
  go_wp2_with (first | (refine wpl_makeK 3 .i64 8 Try.underlying22 infoInt9 n rfl rfl (by omega) (by omega) ?_; intro wn hbH hSH hszH; have h1n := h1.up hSH) | (refine wpl_copy 3 .i64 Try.underlying22 (by kernel_rfl) w1 _ 0 n n _ rfl hbH hSH (Nat.le_refl _) A 1 c [v] rfl rfl h1n (by simpa using hn) (by simpa using hn) ?_; intro w2 hb2 hu2 _))
  have hgw : w1.heap.size ≤ w1.heap.size := Nat.le_refl _
  generalize hG : w1.heap.size = G at hb2
  rw [hG] at hgw
  try rw [hG]
  rw [show laid (List.replicate n 0) 0 [v] = List.replicate 1 v ++ List.replicate (n - 1) 0 by simpa using laid_rep v 0 n 1 (by omega)] at hb2
  clear hbH hSH hszH h1n hgw
  go_loopw [8] (fun i wr => ∃ k : Nat, 1 ≤ k ∧ k ≤ n ∧ i = .int .i64 k ∧ Blk wr G 3 (cellsOf .i64 (List.replicate k v ++ List.replicate (n - k) 0)) ∧ Up w1 wr) (fun i _ => n - (intOf i).toNat)
  case atStart => exact ⟨1, by omega, hn, rfl, hb2, hu2⟩
  case round =>
    clear hb2 hu2
    obtain ⟨k, hk1, hk, rfl, hb, hU⟩ := hrel
    by_cases hlt : k < n
    · have HJ := Lib.hid (laid_rep v k n (Nat.min k (n - k)) (by have := Nat.min_le_right k (n - k); show k + min k (n - k) ≤ n; omega))
      have HG := Lib.hid (show w1.heap.size ≤ G by omega)
      go_wp2_with fail
      refine wp_region_tree (fun w' => Up w1 w') (.quiet 0 (.quiet 1 (.quiet 2 (.quiet 3 (.quiet 4 (.quiet 5 (.quiet 6 (.alt 7 (.quiet 8 (.quiet 9 (.nil))) (.stop))))))))) (by kernel_rfl) (by kernel_rfl) rfl (by kernel_rfl) (by kernel_rfl) hU.drew ?_
      simp only [pickT, List.getElem?_cons_succ, List.getElem?_cons_zero, Option.getD_some]
      repeat (refine tree_step rfl (fun K hK => ?_); go_big_quiet_step ((intro _; rfl)); refine wpQuiet_nil (hK _ ?_); clear hK K)
      refine tree_do (fun K hK => ?_)
      have hbd := hb.drew
      have hUd := hU.drew
      have hql : (List.replicate (Nat.min k (n - k)) v).length = Nat.min k (n - k) := by simp
      have hqm : Nat.min k (n - k) ≤ n - k := Nat.min_le_right _ _
      have hqk : Nat.min k (n - k) ≤ k := Nat.min_le_left _ _
      have hqp : 0 < Nat.min k (n - k) := Nat.lt_min.2 ⟨by omega, by omega⟩
      go_wp2_with (refine wpl_copyM 3 .i64 Try.underlying22 (by kernel_rfl) w1 G k (n - k) (n - k) _ rfl hbd hUd HG.out ⟨G, 0, none⟩ k n (List.replicate (Nat.min k (n - k)) v) rfl hql (fun j hj => by
          rw [hql] at hj
          rw [add_at, Nat.zero_add, hbd.cell, cellsOf_get _ _ _ (by simp; omega)]
          simp [List.getD_eq_getElem?_getD, List.getElem?_append_left, show j < k by omega, hj]) (by rw [hql]; simp; omega) ?_; intro w3 hb3 hu3)
      rw [HJ.out] at hb3
      refine ⟨by first | trivial | exact hu3, ?_⟩
      rw [hql]
      clear hql hbd hUd hb hU
      have HJ2 := Lib.hid hb3
      clear HJ hb3
      generalize Nat.min k (n - k) = q at *
      dsimp only [Act.put]
      simp only [List.setIfInBounds_toArray, List.set_cons_zero, List.set_cons_succ]
      repeat (refine tree_step rfl (fun K hK => ?_); go_big_quiet_step ((intro _; rfl)); refine wpQuiet_nil (hK _ ?_); clear hK K)
      refine tree_nil ?_
      go_wp2_with fail
      refine ⟨⟨k + q, by omega, by omega, by simp, HJ2.out, hu3⟩, ?_⟩
      simp [intOf]; omega
    · have hke : k = n := by omega
      subst hke
      go_wp2_with fail
      go_ret
      exact ⟨G, rfl, by omega, by simpa using hb, hU⟩
end Go.Proofs.Ytmmacpicbonhhaa
