/- Layer 14: the document's Text; documents compared. -/
import Derived.Test.YtneliajeokajbaaAlpha1
import Derived.Test.YtneliajeokajbaaPi
namespace Go.Proofs.Ytneliajeokajbaa
open Go.RowKit
set_option maxRecDepth 100000

set_option maxHeartbeats 2000000 in
theorem ref14Text_calls (A : Option Addr) (c : Nat) (ds : List (List Int)) (w : World) (hl : RdL w .u8 A c ds) (hb : (textOf ds).length ≤ 65535) :
    Calls Try.prog 17 #[.slice A ds.length c] w (RetOwn w 3 .i64 (textOf ds ++ [0])) := by
  have hlen := hl.len
  have HB := Lib.hid hb
  clear hb
  go_enter Try.func17, Try.ntmps17
  go_wp2_with fail
  go_loopw [3, 4, 5] (fun o i _ wr => ∃ k : Nat, k ≤ ds.length ∧ i = .int .i64 k ∧ Own wr w.heap.size 3 .i64 o (textOf (ds.take k)) ∧ Up w wr) (fun _ i _ _ => ds.length - (intOf i).toNat)
  case atStart => exact ⟨0, by omega, rfl, by simpa [textOf] using Own.nil _ _ _ _, Up.refl _⟩
  case round =>
    obtain ⟨j, hj, rfl, ho, hu⟩ := hrel
    have HTL := Lib.hid (show (textOf (ds.take j)).length ≤ 65535 by have := HB.out; have := textOf_take ds j; omega)
    have hlo := ho.lt
    by_cases hlt2 : j < ds.length
    · obtain ⟨ad, d, A', c', rfl, hcell, hrd, HL⟩ := hl.get j hlt2
      have HT := Lib.hid (show textOf (ds.take (j + 1)) = textOf (ds.take j) ++ pattern d ++ [1] by rw [take_succ_getD ds j [] hlt2, textOf_snoc, HL.out, List.append_assoc])
      have HTL2 := Lib.hid (show (textOf (ds.take j)).length + d.length ≤ 65535 - 1 by
        have := HB.out
        have h2 := textOf_take ds (j + 1)
        rw [HT.out, List.length_append, List.length_append] at h2
        simp [pattern] at h2
        omega)
      have hdl := hrd.len
      generalize textOf (ds.take j) = D at *
      go_wp2_with fail
      go_loopw [3, 5] (fun o i wx => ∃ k : Nat, k ≤ d.length ∧ i = .int .i64 k ∧ Own wx w.heap.size 3 .i64 o (D ++ pattern (d.take k)) ∧ Up w wx) (fun _ i _ => d.length - (intOf i).toNat)
      case atStart => exact ⟨0, by omega, rfl, by simpa [pattern] using ho, hu⟩
      case round =>
        obtain ⟨k, hk, rfl, ho2, hu2⟩ := hrel
        have hcell' := hu2.cell hcell
        have hlo2 := ho2.lt
        by_cases hlt : k < d.length
        · obtain ⟨ad2, x, rfl, hcell2, HX, hxr⟩ := (hrd.up hu2).get k hlt
          have hx2 := hxr.u8
          have HT2 := Lib.hid (show pattern (d.take (k + 1)) = pattern (d.take k) ++ [2 + x] by rw [take_succ_getD d k 0 hlt, HX.out]; simp [pattern])
          have HL2 := Lib.hid (show (pattern (d.take k)).length ≤ d.length by simp [pattern]; omega)
          have hi := InK.of_i64 (x := x + 2) (by omega) (by omega)
          have HC := Lib.hid (show 2 + x = x + 2 by omega)
          go_wp2_with (refine wpl_push_int (t := 23) w.heap.size 3 .i64 8 Try.underlying23 infoInt u3 _ (x + 2) rfl hi (fun _ => rfl) (fun _ => rfl) ho2 (by have := HL2.out; have := HTL2.out; rw [List.length_append]; omega) (by decide) hu2.size ?_; intro v1 w1 hv1 hu1)
          go_roundw
          case rel =>
            refine ⟨k + 1, by omega, by simp, ?_, hu2.thenx hu1 fun i hi e => by have := (hlo2 i e).1; omega⟩
            rw [HT2.out, HC.out, ← List.append_assoc]
            exact hv1
          case measure => simp [intOf]; omega
        · have hke : k = d.length := by omega
          subst hke
          rw [List.take_length] at ho2
          have HPL := Lib.hid (show (D ++ pattern d).length ≤ 65535 by have := HTL2.out; rw [List.length_append]; simp [pattern]; omega)
          go_wp2_with (refine wpl_push_int (t := 23) w.heap.size 3 .i64 8 Try.underlying23 infoInt u3 (D ++ pattern d) 1 rfl (InK.of_i64 (by omega) (by omega)) (fun _ => rfl) (fun _ => rfl) ho2 (by have := HPL.out; omega) (by decide) hu2.size ?_; intro v4 w4 hv4 hu4)
          go_roundw
          case rel => exact ⟨j + 1, by omega, by simp, by rw [HT.out]; exact hv4, hu2.thenx hu4 fun i hi e => by have := (hlo2 i e).1; omega⟩
          case measure => simp [intOf]; omega
    · have hke : j = ds.length := by omega
      subst hke
      rw [List.take_length] at ho HTL
      go_wp2_with (refine wpl_push_int (t := 23) w.heap.size 3 .i64 8 Try.underlying23 infoInt u3 (textOf ds) 0 rfl (InK.of_i64 (by omega) (by omega)) (fun _ => rfl) (fun _ => rfl) ho (by have := HTL.out; omega) (by decide) hu.size ?_
                   intro v4 w4 hv4 hu4)
      go_ret
      exact RetOwn.of hv4 (hu.thenx hu4 fun i hi e => by have := (hlo i e).1; omega)
end Go.Proofs.Ytneliajeokajbaa
