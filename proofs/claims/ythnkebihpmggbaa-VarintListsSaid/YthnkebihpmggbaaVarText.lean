/- The walks of varint's Text and GetText. -/
import Derived.Test.YthnkebihpmggbaaVarGet
import Derived.Test.YthnkebihpmggbaaVarPut
namespace Go.Proofs.Ythnkebihpmggbaa
open Go.RowKit
set_option maxRecDepth 100000

def texts (ls : List (List Int)) : List Int := (ls.map (fun b => vput b.length ++ b)).flatten
theorem texts_snoc (ls : List (List Int)) (b : List Int) : texts (ls ++ [b]) = texts ls ++ (vput b.length ++ b) := by
  unfold texts
  rw [List.map_append, List.flatten_append]
  simp
theorem texts_take (ls : List (List Int)) (k : Nat) : (texts (ls.take k)).length ≤ (texts ls).length := by
  have h := List.take_append_drop k ls
  have e : texts ls = texts (ls.take k) ++ texts (ls.drop k) := by
    conv => lhs; rw [← h]
    unfold texts
    rw [List.map_append, List.flatten_append]
  rw [e, List.length_append]
  omega

set_option maxHeartbeats 1000000 in
theorem varText_calls (A : Option Addr) (c : Nat) (ls : List (List Int)) (w : World) (hl : RdL w .u8 A c ls) (hb : (texts ls).length ≤ 140737488355000) :
    Calls Try.prog 30 #[.slice A ls.length c] w (RetOwn w 5 .u8 (texts ls)) := by
  have hlen := hl.len
  have HB := Lib.hid hb
  clear hb
  go_enter Try.func30, Try.ntmps30
  go_wp2_with fail
  go_loopw [3, 5, 8] (fun o _ i wr => ∃ k : Nat, k ≤ ls.length ∧ i = .int .i64 k ∧ Own wr w.heap.size 5 .u8 o (texts (ls.take k)) ∧ Up w wr) (fun _ _ i _ => ls.length - (intOf i).toNat)
  case atStart => exact ⟨0, by omega, rfl, by simpa [texts] using Own.nil _ _ _ _, Up.refl _⟩
  case round =>
    obtain ⟨k, hk, rfl, ho, hu⟩ := hrel
    by_cases hlt : k < ls.length
    · obtain ⟨ad, b, A', c', rfl, hcell, hrd, HL⟩ := hl.get k hlt
      have hcell' := hu.cell hcell
      have hbl := hrd.len
      have HT := Lib.hid (show texts (ls.take (k + 1)) = texts (ls.take k) ++ (vput b.length ++ b) by rw [take_succ_getD ls k [] hlt, texts_snoc, HL.out])
      have HLE := Lib.hid (show (texts (ls.take k)).length + ((vput b.length).length + b.length) ≤ 140737488355000 by
        have h1 := texts_take ls (k + 1)
        rw [HT.out, List.length_append, List.length_append] at h1
        have := HB.out
        omega)
      generalize hD : texts (ls.take k) = D at *
      clear hD
      go_wp2_with fail
      refine (varput_calls w.heap.size b.length _ D wr ho hu.size (by omega) (by have := HLE.out; omega)).mono ?_
      rintro e w2 ⟨v2, rfl, hv2, hu2⟩
      have hU2 : Up w w2 := hu.thenx hu2 fun i hi e => by omega
      go_wp2_with (refine wpl_append (t := 23) w.heap.size 5 .u8 1 Try.underlying23 infoU8 v2 (D ++ vput b.length) rfl hv2 A' _ c' b rfl rfl (hrd.up hU2) (by have := HLE.out; rw [List.length_append]; omega) (by decide) hU2.size ?_; intro v3 w3 hv3 hu3 _)
      go_roundw
      case rel =>
        refine ⟨k + 1, by omega, by simp, ?_, hU2.thenx hu3 fun i hi e => by have := (hv2.lt i e).1; omega⟩
        rw [HT.out, ← List.append_assoc]
        exact hv3
      case measure => simp [intOf]; omega
    · have hke : k = ls.length := by omega
      subst hke
      rw [List.take_length] at ho
      go_wp2_with fail
      go_ret
      exact RetOwn.of ho hu

def tget (l : List Int) : List Int × List Int × Nat :=
  let r := vget 9223372036854775807 l 0 0
  if r.2.2 ≠ 0 then ([], [], r.2.2) else if (l.drop r.2.1).length < r.1 then ([], [], 4) else ((l.drop r.2.1).take r.1, (l.drop r.2.1).drop r.1, 0)

theorem tget_of {l : List Int} {m j f : Nat} (hr : vget 9223372036854775807 l 0 0 = (m, j, f)) : tget l = if f ≠ 0 then ([], [], f) else if (l.drop j).length < m then ([], [], 4) else ((l.drop j).take m, (l.drop j).drop m, 0) := by
  unfold tget
  rw [hr]

structure TextPost (w : World) (r : List Int × List Int × Nat) (en : Ending) (w' : World) : Prop where mk ::
  out : ∃ v1 v2, en = .returned (.tuple #[v1, v2, .int .i64 r.2.2]) ∧ Own w' w.heap.size 5 .u8 v1 r.1 ∧ Own w' w.heap.size 5 .u8 v2 r.2.1 ∧ Up w w'

set_option maxHeartbeats 2000000 in
theorem varGetText_calls (A : Option Addr) (c : Nat) (l : List Int) (w : World) (h1 : Rd w .u8 A c l) (hb : l.length ≤ 140737488355328) :
    Calls Try.prog 31 #[.slice A l.length c] w (TextPost w (tget l)) := by
  have hN : Rdr (w.alloc (.cells #[.slice A l.length c, .int .i64 0] 77)) w.heap.size l 0 := Rdr.new w _ h1 (Blk.new _ _ _) ((Up.refl _).alloc _)
  have hU : Up w (w.alloc (.cells #[.slice A l.length c, .int .i64 0] 77)) := (Up.refl _).alloc _
  generalize hq : tget l = q
  have HQ := Lib.hid hq
  clear hq
  go_enter Try.func31, Try.ntmps31
  go_wp2_with fail
  refine (varNumber_calls w.heap.size 9223372036854775807 l _ hN hb (by omega)).mono ?_
  rintro e w1 hp
  obtain ⟨rfl, hx1, hr1⟩ := hp.out
  have hle := vget_le 9223372036854775807 l 0 0
  have herr := vget_err 9223372036854775807 l 0 0
  generalize hr : vget 9223372036854775807 l 0 0 = r at *
  obtain ⟨m, j, f⟩ := r
  simp only at hle herr hr1 ⊢
  have HT := Lib.hid (HQ.out.symm.trans (tget_of hr))
  clear HQ
  have hu1 : Up w w1 := hU.thenx hx1 fun b hb e => by omega
  by_cases h0 : f = 0
  · subst h0
    rw [if_pos rfl] at hr1
    have HT2 := Lib.hid (HT.out.trans (if_neg (by omega)))
    have hdl : (l.drop j).length ≤ 140737488355328 := by rw [List.length_drop]; omega
    clear hr hp hN hU herr HT
    generalize l.drop j = t at *
    by_cases hlt : t.length < m
    · have HV := Lib.hid (HT2.out.trans (if_pos hlt))
      obtain ⟨B, d, hB, hrd, hne⟩ := hr1.out
      have c0 := hB.cell 0
      have c1 := hB.cell 1
      have f1 := hB.frozen 1
      have hst : UpX (fun b => b = w.heap.size) w1 (w1.setCell ⟨w.heap.size, 1, none⟩ (.int .i64 4)) := UpX.one _ _ _ _
      have hB2 : Blk (w1.setCell ⟨w.heap.size, 1, none⟩ (.int .i64 4)) w.heap.size 77 #[.slice B t.length d, .int .i64 4] := hB.set 1 _
      have c4 := hB2.cell 1
      go_wp2_with fail
      go_quiet (fail)
      go_wp2_with fail
      go_ret3
      rw [HV.out]
      exact ⟨_, _, rfl, Own.nil _ _ _ _, Own.nil _ _ _ _, (hu1.thenx hst fun i hi e => by omega).drewN _⟩
    · have HV := Lib.hid (HT2.out.trans (if_neg hlt))
      obtain ⟨B, d, hB, hrd, hne⟩ := hr1.out
      have c0 := hB.cell 0
      have c1 := hB.cell 1
      go_wp2_with fail
      refine (varTake_calls w.heap.size m t _ w1 hr1 hdl (by omega)).mono ?_
      rintro e w2 ⟨v2, rfl, hv2, hx2, hr2⟩
      obtain ⟨B2, d2, rfl, hrd2⟩ := hv2.rd
      have hu2 : Up w w2 := hu1.thenx hx2 fun i hi e => by omega
      go_wp2_with fail
      refine (varLeft_calls w.heap.size _ _ w2 hr2 (by rw [List.length_drop]; omega)).mono ?_
      rintro e w3 ⟨v3, rfl, hv3, hu3⟩
      obtain ⟨B3, d3, rfl, hrd3⟩ := hv3.rd
      have hv2' := (hv2.up hu3).mono hu1.size
      have hv3' := hv3.mono hu2.size
      rw [List.length_take] at hv2'
      rw [List.length_drop] at hv3'
      go_wp2_with fail
      go_ret3
      rw [HV.out]
      exact ⟨_, _, rfl, hv2', hv3', hu2.trans hu3⟩
  · rw [if_neg h0] at hr1
    have HV := Lib.hid (HT.out.trans (if_pos h0))
    obtain ⟨B, d, hB, hrd, hne⟩ := hr1.out
    have c0 := hB.cell 0
    have c1 := hB.cell 1
    have hf : ¬ ((f : Int) = 0) := by omega
    go_wp2_with fail
    go_quiet (fail)
    go_wp2_with fail
    go_ret3
    rw [HV.out]
    exact ⟨_, _, rfl, Own.nil _ _ _ _, Own.nil _ _ _ _, hu1.drewN _⟩
end Go.Proofs.Ythnkebihpmggbaa
