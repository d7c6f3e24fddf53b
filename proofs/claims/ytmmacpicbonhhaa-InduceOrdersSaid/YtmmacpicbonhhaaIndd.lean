/- The walk of induce.induced. -/
import Derived.Test.YtmmacpicbonhhaaRgM
import Derived.Test.YtmmacpicbonhhaaWkM
import Derived.Test.YtmmacpicbonhhaaIndM
namespace Go.Proofs.Ytmmacpicbonhhaa
open Go.RowKit
set_option maxRecDepth 100000

theorem sow_in {x : List Int} {fs : List Nat} (hn : fs.Nodup) (hm : ∀ i, i ∈ fs ↔ i < x.length ∧ Ind.lms x i = true) :
    ∀ k i, k < fs.length → fs.getD (fs.length - 1 - k) 0 = i → i < x.length ∧ (sownK x fs k).1.length = x.length ∧ 1 ≤ (sownK x fs k).2 (x.getD i 0) ∧ (sownK x fs k).2 (x.getD i 0) ≤ x.length := by
  intro k i hk hi
  have e : fs.drop (fs.length - (k + 1)) = i :: fs.drop (fs.length - k) := by
    have e : fs.drop (fs.length - (k + 1)) = fs[fs.length - (k + 1)] :: fs.drop (fs.length - (k + 1) + 1) := List.drop_eq_getElem_cons (by omega)
    rw [e, show fs.length - (k + 1) + 1 = fs.length - k by omega]
    congr 1
    rw [← hi, List.getD_eq_getElem?_getD, show fs.length - 1 - k = fs.length - (k + 1) by omega, List.getElem?_eq_getElem (by omega)]
    rfl
  have hnd : (i :: fs.drop (fs.length - k)).Nodup := by rw [← e]; exact hn.sublist (List.drop_sublist _ _)
  have hmm : ∀ j ∈ i :: fs.drop (fs.length - k), j < x.length ∧ Ind.lms x j = true := fun j hj => (hm j).1 (List.mem_of_mem_drop (by rw [← e] at hj; exact hj))
  have hp := Ind.sow_all (x := x) _ (List.nodup_cons.1 hnd).2 fun j hj => hmm j (List.mem_cons_of_mem _ hj)
  have hfew := Ind.few hnd hmm (x.getD i 0)
  have hcn := hp.cnt (x.getD i 0)
  rw [List.filter_cons, if_pos (by simp), List.length_cons] at hfew
  have htl := Ind.hd_lc (x := x) (x.getD i 0)
  have htn := Ind.tl_le (x := x) (x.getD i 0)
  refine ⟨(hmm i (by simp)).1, hp.len, ?_, ?_⟩
  · show 1 ≤ (Ind.sowN x (fs.drop (fs.length - k))).2 (x.getD i 0)
    omega
  · show (Ind.sowN x (fs.drop (fs.length - k))).2 (x.getD i 0) ≤ x.length
    omega

/-- suffix.Kinds of a right text. -/
structure KdPost (x : List Int) (w : World) (e : Ending) (w' : World) : Prop where mk ::
  out : ∃ B cb, e = .returned (.tuple #[.slice B x.length cb, .int .i64 0]) ∧ RdT w' B x.length (Ind.knd x) ∧ (∀ ad, B = some ad → ad.block < w'.heap.size) ∧ Up w w'

set_option maxHeartbeats 4000000 in
theorem induced_calls (b off ca : Nat) (x : List Int) (fb fo fc : Nat) (fs : List Nat) (w : World) (hrd : Rd w .i64 (some ⟨b, off, none⟩) ca x) (h2 : 2 ≤ x.length) (hl : x.length ≤ 65536)
    (m : Nat) (HM : Hid (Lib.maxOf x + 1 = (m : Int))) (hm : m ≤ 65536) (HR : Hid (∀ y ∈ x, 0 ≤ y ∧ y < (m : Int))) (HT : Hid (Ind.Tx x))
    (hfs : Rd w .i64 (some ⟨fb, fo, none⟩) fc (fs.map fun (i : Nat) => (i : Int))) (hfb : fb < w.heap.size) (hfl : fs.length ≤ 65536) (HN : Hid fs.Nodup) (HF : Hid (∀ i, i ∈ fs ↔ i < x.length ∧ Ind.lms x i = true))
    (HK : ∀ w', Up w w' → Hid (Calls Try.prog 58 #[.slice (some ⟨b, off, none⟩) x.length ca] w' (KdPost x w'))) :
    Calls Try.prog 42 #[.slice (some ⟨b, off, none⟩) x.length ca, .slice (some ⟨fb, fo, none⟩) fs.length fc] w fun e w' => ∃ O, e = .returned (.slice (some ⟨O, 0, none⟩) x.length x.length) ∧ w.heap.size ≤ O ∧ Blk w' O 3 (cellsOf .i64 (Ind.ind x fs)) ∧ Up w w' := by
  have hb1 : ((x.length : Int) == 1) = false := by simpa using (show (x.length : Int) ≠ 1 by omega)
  have hx0 : 0 < x.length := by omega
  have hbw : b < w.heap.size := World.block_lt_of_cell? w ((⟨b, off, none⟩ : Addr).add 0) (hrd.cell _ rfl 0 hx0)
  have HSI := Lib.hid (sow_in HN.out HF.out)
  have HSD := Lib.hid (Ind.sow_seeds HN.out HF.out)
  have HTX := Lib.hid HT.out
  clear HT
  go_enter Try.func42, Try.ntmps42
  go_wp2_with fail
  refine (HK w (Up.refl w)).out.mono ?_
  rintro en w1 ⟨B, cb, rfl, hkd, hB, hu1⟩
  clear HK
  go_wp2_with fail
  have hua : Up w1 (w1.alloc (.cells #[.int .i64 (-1)] 3)) := (Up.refl w1).alloc _
  refine (repeat_calls (some ⟨w1.heap.size, 0, none⟩) 1 (-1) x.length _ (Rd.of_cells (xs := [-1]) (Blk.new w1 3 (cellsOf .i64 [-1])) rfl (by decide) (fun y hy => by rw [List.mem_singleton.1 hy]; exact InK.of_i64 (by decide) (by decide))) (by omega) hl).mono ?_
  rintro en w2 ⟨O, rfl, hO, hbO, hu2⟩
  have hO1 : w1.heap.size < O := by simp at hO; omega
  replace hu2 := hua.trans hu2
  clear hua hO
  go_wp2_with fail
  have hOlt := hbO.lt
  have hs1 := hu1.size
  have hs2 := hu2.size
  have hu3 : Up w2 (w2.alloc (.cells #[.slice (some ⟨b, off, none⟩) x.length ca, .slice B x.length cb, .slice (some ⟨O, 0, none⟩) x.length x.length] 78)) := (Up.refl w2).alloc _
  have hst : St (w2.alloc (.cells #[.slice (some ⟨b, off, none⟩) x.length ca, .slice B x.length cb, .slice (some ⟨O, 0, none⟩) x.length x.length] 78)) w2.heap.size O x (some ⟨b, off, none⟩) ca B cb (Ind.knd x) := {
    s := Blk.new w2 78 _
    rd := hrd.up ((hu1.trans hu2).trans hu3)
    kd := ⟨fun i hi => by
      obtain ⟨ad, e, hc⟩ := hkd.at_ i hi
      exact ⟨ad, e, (hu2.trans hu3).cell hc⟩⟩
    so := by omega
    ao := fun ad e => by cases e; show b ≠ O; omega
    bo := fun ad e => by have := hB ad e; omega }
  have hfs3 := hfs.up ((hu1.trans hu2).trans hu3)
  have hbO3 := hbO.up hu3
  have hu := (hu1.trans hu2).trans hu3
  have hSlt : w2.heap.size < (w2.alloc (.cells #[.slice (some ⟨b, off, none⟩) x.length ca, .slice B x.length cb, .slice (some ⟨O, 0, none⟩) x.length x.length] 78)).heap.size := by simp
  generalize w2.alloc (.cells #[.slice (some ⟨b, off, none⟩) x.length ca, .slice B x.length cb, .slice (some ⟨O, 0, none⟩) x.length x.length] 78) = w3 at *
  generalize w2.heap.size = S at *
  have hOw : w.heap.size ≤ O := by omega
  clear hkd hB hrd hfs hbO hu1 hu2 hu3
  refine (indSow_calls S O b off x ca B cb _ w3 hst hx0 hl m HM hm HR fb fo fc fs hfs3 (by omega) (by omega) hfl hbO3 HSI).mono ?_
  rintro en w4 ⟨rfl, hb4, hx4⟩
  have hst4 := hst.upx hx4
  clear hst hbO3 hfs3 HSI
  go_wp2_with fail
  refine (indLarger_calls S O b off x ca B cb w4 hst4 hx0 hl m HM hm HR _ hb4 (Lib.hid (Ind.lg_in HTX.out HSD.out))).mono ?_
  rintro en w5 ⟨rfl, hb5, hx5⟩
  have hst5 := hst4.upx hx5
  have hx5 := hx4.trans (hx5.mono fun _ _ h => h)
  clear hst4 hb4 hx4
  go_wp2_with fail
  refine (indClear_calls S O x (some ⟨b, off, none⟩) ca B cb (Ind.knd x) w5 hst5 hl _ (Ind.lg_end HTX.out HSD.out).1 (Lib.hid fun k hk => (Ind.lg_end HTX.out HSD.out).2 k (by rw [← (Ind.lg_end HTX.out HSD.out).1]; exact hk)) hb5).mono ?_
  rintro en w6 ⟨rfl, hb6, hx6⟩
  have hst6 := hst5.upx hx6
  have hx6 := hx5.trans hx6
  rw [clrK_all _ _ (Ind.lg_end HTX.out HSD.out).1] at hb6
  clear hst5 hb5 hx5
  go_wp2_with fail
  refine (indSmaller_calls S O b off x ca B cb w6 hst6 hx0 hl m HM hm HR _ hb6 (Lib.hid (Ind.sm_in HTX.out (Ind.clr_laid HTX.out h2 HSD.out (Ind.lg_all HTX.out HSD.out x.length (Nat.le_refl _)))))).mono ?_
  rintro en w7 ⟨rfl, hb7, hx7⟩
  have hst7 := hst6.upx hx7
  have hx7 := hx6.trans hx7
  have h72 : w7.cell? ⟨S, 2, none⟩ = some (.slice (some ⟨O, 0, none⟩) x.length x.length) := by simpa using hst7.s.cell 2
  clear hst6 hst7 hb6 hx6
  go_wp2_with fail
  go_ret
  exact ⟨O, rfl, hOw, hb7, hu.thenx hx7 fun i hi e => by omega⟩
end Go.Proofs.Ytmmacpicbonhhaa
