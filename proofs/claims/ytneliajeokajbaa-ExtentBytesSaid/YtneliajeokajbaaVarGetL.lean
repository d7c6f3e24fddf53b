/- The walk of varint's GetList. -/
import Derived.Test.YtneliajeokajbaaVarN
namespace Go.Proofs.Ytneliajeokajbaa
open Go.RowKit
set_option maxRecDepth 100000

/-- So many numbers more, from a place on: what has been read, the place behind, the error. -/
def gl (b : List Int) : Nat → List Int → Nat → List Int × Nat × Nat
  | 0, acc, p => (acc, p, 0)
  | n + 1, acc, p =>
    if (vget 9223372036854775807 (b.drop p) 0 0).2.2 = 0 then gl b n (acc ++ [((vget 9223372036854775807 (b.drop p) 0 0).1 : Int)]) (p + (vget 9223372036854775807 (b.drop p) 0 0).2.1)
    else (acc ++ [((vget 9223372036854775807 (b.drop p) 0 0).1 : Int)], p + (vget 9223372036854775807 (b.drop p) 0 0).2.1, (vget 9223372036854775807 (b.drop p) 0 0).2.2)
theorem gl_ok (b : List Int) (n : Nat) (acc : List Int) (p m j : Nat) (h : vget 9223372036854775807 (b.drop p) 0 0 = (m, j, 0)) : gl b (n + 1) acc p = gl b n (acc ++ [(m : Int)]) (p + j) := by
  rw [gl, h]
  rfl
theorem gl_bad (b : List Int) (n : Nat) (acc : List Int) (p m j f : Nat) (h : vget 9223372036854775807 (b.drop p) 0 0 = (m, j, f)) (hf : f ≠ 0) : gl b (n + 1) acc p = (acc ++ [(m : Int)], p + j, f) := by
  rw [gl, h]
  simp only
  rw [if_neg hf]

def glist (b : List Int) : List Int × List Int × Nat :=
  if (vget 9223372036854775807 b 0 0).2.2 ≠ 0 then ([], [], (vget 9223372036854775807 b 0 0).2.2)
  else if 65536 < (vget 9223372036854775807 b 0 0).1 then ([], [], 2)
  else if (gl b (vget 9223372036854775807 b 0 0).1 [] (vget 9223372036854775807 b 0 0).2.1).2.2 ≠ 0 then ([], [], (gl b (vget 9223372036854775807 b 0 0).1 [] (vget 9223372036854775807 b 0 0).2.1).2.2)
  else ((gl b (vget 9223372036854775807 b 0 0).1 [] (vget 9223372036854775807 b 0 0).2.1).1, b.drop (gl b (vget 9223372036854775807 b 0 0).1 [] (vget 9223372036854775807 b 0 0).2.1).2.1, 0)
theorem glist_of {b : List Int} {m j f : Nat} (h : vget 9223372036854775807 b 0 0 = (m, j, f)) : glist b = if f ≠ 0 then ([], [], f) else if 65536 < m then ([], [], 2) else if (gl b m [] j).2.2 ≠ 0 then ([], [], (gl b m [] j).2.2) else ((gl b m [] j).1, b.drop (gl b m [] j).2.1, 0) := by
  unfold glist
  rw [h]

structure ListPost (w : World) (r : List Int × List Int × Nat) (en : Ending) (w' : World) : Prop where mk ::
  out : ∃ v1 v2, en = .returned (.tuple #[v1, v2, .int .i64 r.2.2]) ∧ Own w' w.heap.size 3 .i64 v1 r.1 ∧ Own w' w.heap.size 5 .u8 v2 r.2.1 ∧ Up w w'

set_option maxHeartbeats 4000000 in
theorem varGetList_calls (A : Option Addr) (c : Nat) (l : List Int) (w : World) (h1 : Rd w .u8 A c l) (hb : l.length ≤ 140737488355328) :
    Calls Try.prog 66 #[.slice A l.length c] w (ListPost w (glist l)) := by
  have hN : Rdr (w.alloc (.cells #[.slice A l.length c, .int .i64 0] 130)) w.heap.size l 0 := Rdr.new w _ h1 (Blk.new _ _ _) ((Up.refl _).alloc _)
  have hU : Up w (w.alloc (.cells #[.slice A l.length c, .int .i64 0] 130)) := (Up.refl _).alloc _
  generalize hq : glist l = q
  have HQ := Lib.hid hq
  clear hq
  go_enter Try.func66, Try.ntmps66
  go_wp2_with fail
  refine (varNumber_calls w.heap.size 9223372036854775807 l _ hN hb (by omega)).mono ?_
  rintro e w1 hp
  obtain ⟨rfl, hx1, hr1⟩ := hp.out
  have hle := vget_le 9223372036854775807 l 0 0
  have hat := vget_at 9223372036854775807 l 0 0
  generalize hr : vget 9223372036854775807 l 0 0 = r at *
  obtain ⟨m, j, f⟩ := r
  simp only [Nat.zero_add] at hle hr1 hat ⊢
  have HT := Lib.hid (HQ.out.symm.trans (glist_of hr))
  clear HQ
  have hu1 : Up w w1 := hU.thenx hx1 fun b hb e => by omega
  have hgsz : w.heap.size < w1.heap.size := by have := hx1.size; simp at this; omega
  by_cases h0 : f = 0
  · subst h0
    rw [if_pos rfl] at hr1
    have HT2 := Lib.hid (HT.out.trans (if_neg (by omega)))
    clear hr hp hN hU HT
    by_cases hbig : 65536 < m
    · have HV := Lib.hid (HT2.out.trans (if_pos hbig))
      obtain ⟨B, d, hB, hrd, hne⟩ := hr1.out
      have c0 := hB.cell 0
      have c1 := hB.cell 1
      have f1 := hB.frozen 1
      have hst : UpX (fun b => b = w.heap.size) w1 (w1.setCell ⟨w.heap.size, 1, none⟩ (.int .i64 2)) := UpX.one _ _ _ _
      have hB2 : Blk (w1.setCell ⟨w.heap.size, 1, none⟩ (.int .i64 2)) w.heap.size 130 #[.slice B (l.drop j).length d, .int .i64 2] := hB.set 1 _
      have c4 := hB2.cell 1
      have hR2 : Rdr (w1.setCell ⟨w.heap.size, 1, none⟩ (.int .i64 2)) w.heap.size (l.drop j) 2 := ⟨B, d, hB2, hrd.upx (UpX.one _ _ _ _) fun ad h0 hp => Nat.ne_of_lt (hne ad h0 hp), hne⟩
      have hu2 : Up w (w1.setCell ⟨w.heap.size, 1, none⟩ (.int .i64 2)) := hu1.thenx hst fun i hi e => by omega
      go_wp2_with fail
      generalize w1.setCell ⟨w.heap.size, 1, none⟩ (.int .i64 2) = w2 at *
      go_loopw [7, 8] (fun o i wr => o = .slice none 0 0 ∧ i = .int .u64 0 ∧ w2 = wr) (fun _ _ _ => 0)
      case atStart => exact ⟨rfl, rfl, rfl⟩
      case round =>
        obtain ⟨rfl, rfl, rfl⟩ := hrel
        go_wp2_with fail
        refine (varEnd_bad w.heap.size _ 2 w2 hR2 (by omega)).mono ?_
        rintro e w3 ⟨rfl, hu3⟩
        go_wp2_with fail
        go_ret3
        rw [HV.out]
        exact ⟨_, _, rfl, Own.nil _ _ _ _, Own.nil _ _ _ _, hu2.trans hu3⟩
    · have HV := Lib.hid (HT2.out.trans (if_neg hbig))
      obtain ⟨B, d, hB, hrd, hne⟩ := hr1.out
      have c0 := hB.cell 0
      have c1 := hB.cell 1
      go_wp2_with fail
      clear c0 c1 hB hrd hne
      go_loopw [7, 8] (fun o i wr => ∃ (k : Nat) (acc : List Int) (p f : Nat), k ≤ m ∧ i = .int .u64 k ∧ Own wr w1.heap.size 3 .i64 o acc ∧ Rdr wr w.heap.size (l.drop p) f ∧ p ≤ l.length ∧ acc.length ≤ 65537 ∧ Hid (acc.length ≤ k) ∧ Up w wr ∧ w1.heap.size ≤ wr.heap.size ∧ Hid ((f = 0 ∧ gl l m [] j = gl l (m - k) acc p) ∨ (f ≠ 0 ∧ ∃ p2, gl l m [] j = (acc, p2, f)))) (fun _ i _ => m - (intOf i).toNat)
      case atStart => exact ⟨0, [], j, 0, by omega, rfl, Own.nil _ _ _ _, hr1, by omega, by simp, Lib.hid (by simp), hu1, Nat.le_refl _, Lib.hid (.inl ⟨rfl, rfl⟩)⟩
      case round =>
        obtain ⟨k, acc, p, f, hk, rfl, ho, hR, hpl, hal, HAK, hu, hsz, HG⟩ := hrel
        obtain ⟨B, d, hB, hrd, hne⟩ := hR.out
        have c1 := hB.cell 1
        have hdl : (l.drop p).length ≤ 140737488355328 := by rw [List.length_drop]; omega
        by_cases hf : f = 0
        · subst hf
          have HG1 : Hid (gl l m [] j = gl l (m - k) acc p) := Lib.hid (by
            rcases HG.out with h | h
            · exact h.2
            · exact absurd rfl h.1)
          clear HG
          by_cases hlt : k < m
          · have hkm : (k : Int) < (m : Int) := by omega
            go_wp2_with fail
            refine (varNumber_calls w.heap.size 9223372036854775807 (l.drop p) wr hR hdl (by omega)).mono ?_
            rintro e w2 hp
            obtain ⟨rfl, hx2, hr2⟩ := hp.out
            have hle2 := vget_le 9223372036854775807 (l.drop p) 0 0
            have hat2 := vget_at 9223372036854775807 (l.drop p) 0 0
            generalize hr : vget 9223372036854775807 (l.drop p) 0 0 = r at *
            obtain ⟨m2, j2, f2⟩ := r
            simp only [Nat.zero_add, List.length_drop] at hle2 hr2 hat2 ⊢
            have hlo := ho.lt
            have ho2 := ho.upx hx2 fun b hb e => by have := (hlo b hb).1; omega
            have hu2 : Up w w2 := hu.thenx hx2 fun b hb e => by omega
            have hsz2 : w1.heap.size ≤ w2.heap.size := Nat.le_trans hsz hx2.size
            have hm2 := InK.of_i64 (x := (m2 : Int)) (by omega) (by omega)
            have hakk : acc.length ≤ k := HAK.out
            go_wp2_with (refine wpl_push_int (t := 23) w1.heap.size 3 .i64 8 Try.underlying23 infoInt u7 acc (m2 : Int) rfl hm2 (fun _ => rfl) (fun _ => rfl) ho2 (by omega) (by decide) hsz2 ?_
                         intro v3 w3 hv3 hu3)
            have hu3' : Up w w3 := hu2.thenx hu3 fun i hi e => by have := (hlo i e).1; omega
            have hr3 := hr2.upx hu3 (fun b hb e => by have := (hlo b e).1; omega)
            go_roundw
            case rel =>
              by_cases hf2 : f2 = 0
              · subst hf2
                rw [if_pos rfl, List.drop_drop] at hr3
                refine ⟨k + 1, acc ++ [(m2 : Int)], p + j2, 0, by omega, by simp, hv3, hr3, by omega, by rw [List.length_append]; simp; omega, Lib.hid (by rw [List.length_append]; simp; omega), hu3', Nat.le_trans hsz2 hu3.size, Lib.hid (.inl ⟨rfl, ?_⟩)⟩
                rw [HG1.out, show m - k = (m - (k + 1)) + 1 by omega, gl_ok l _ acc p m2 j2 hr]
              · rw [if_neg hf2] at hr3
                refine ⟨k + 1, acc ++ [(m2 : Int)], p, f2, by omega, by simp, hv3, hr3, by omega, by rw [List.length_append]; simp; omega, Lib.hid (by rw [List.length_append]; simp; omega), hu3', Nat.le_trans hsz2 hu3.size, Lib.hid (.inr ⟨hf2, p + j2, ?_⟩)⟩
                rw [HG1.out, show m - k = (m - (k + 1)) + 1 by omega, gl_bad l _ acc p m2 j2 f2 hr hf2]
            case measure => simp [intOf]; omega
          · have HE := Lib.hid (show gl l m [] j = (acc, p, 0) by rw [HG1.out, show m - k = 0 by omega]; rfl)
            have HV2 : Hid (q = (acc, l.drop p, 0)) := Lib.hid (by rw [HV.out, HE.out]; rfl)
            clear HV HE HG1 HT2
            have ho2 := ho
            obtain ⟨B7, d7, rfl, hr7⟩ := ho.rd
            go_wp2_with fail
            refine (varEnd_ok w.heap.size _ wr hR hdl).mono ?_
            rintro e w3 ⟨v3, rfl, hv3, hu3⟩
            obtain ⟨B3, d3, rfl, hrd3⟩ := hv3.rd
            have hvs := (hv3.mono hu.size)
            rw [List.length_drop] at hvs
            have hacc := (ho2.up hu3).mono hu1.size
            go_wp2_with fail
            go_ret3
            rw [HV2.out]
            exact ⟨_, _, rfl, hacc, hvs, hu.trans hu3⟩
        · have HG2 : Hid (∃ p2, gl l m [] j = (acc, p2, f)) := Lib.hid (by
            rcases HG.out with h | h
            · exact absurd h.1 hf
            · exact h.2)
          clear HG
          obtain ⟨p2, hp2⟩ := HG2.out
          have HV2 : Hid (q = ([], [], f)) := Lib.hid (by rw [HV.out, hp2]; exact if_pos hf)
          clear HV HG2 hp2 HT2
          have hfi : ¬ ((f : Int) = 0) := by omega
          go_wp2_with fail
          all_goals
            (refine (varEnd_bad w.heap.size _ _ wr hR hfi).mono ?_
             rintro e w3 ⟨rfl, hu3⟩
             go_wp2_with fail
             go_ret3
             rw [HV2.out]
             exact ⟨_, _, rfl, Own.nil _ _ _ _, Own.nil _ _ _ _, hu.trans hu3⟩)
  · rw [if_neg h0] at hr1
    have HV := Lib.hid (HT.out.trans (if_pos h0))
    obtain ⟨B, d, hB, hrd, hne⟩ := hr1.out
    have c1 := hB.cell 1
    have hfi : ¬ ((f : Int) = 0) := by omega
    clear hr hp hN hU HT
    go_wp2_with fail
    go_loopw [7, 8] (fun o i wr => o = .slice none 0 0 ∧ i = .int .u64 0 ∧ w1 = wr) (fun _ _ _ => 0)
    case atStart => exact ⟨rfl, rfl, rfl⟩
    case round =>
      obtain ⟨rfl, rfl, rfl⟩ := hrel
      go_wp2_with fail
      all_goals
        (refine (varEnd_bad w.heap.size _ _ w1 hr1 hfi).mono ?_
         rintro e w3 ⟨rfl, hu3⟩
         go_wp2_with fail
         go_ret3
         rw [HV.out]
         exact ⟨_, _, rfl, Own.nil _ _ _ _, Own.nil _ _ _ _, hu1.trans hu3⟩)
end Go.Proofs.Ytneliajeokajbaa
