/- The walks of varint's Get, GetSigned. -/
import Derived.Test.YtneliajeokajbaaVarRead
import Derived.Test.YtneliajeokajbaaVarBits
namespace Go.Proofs.Ytneliajeokajbaa
open Go.RowKit
set_option maxRecDepth 100000

theorem vget_le (g : Nat) (l : List Int) (i n : Nat) : (vget g l i n).1 ≤ g := by
  induction l generalizing i n with
  | nil => simp [vget]
  | cons c t ih =>
    rw [vget]
    split
    · simp
    · rename_i h
      split
      · simp only; omega
      · exact ih _ _
theorem vget_err (g : Nat) (l : List Int) (i n : Nat) : (vget g l i n).2.2 = 0 ∨ (vget g l i n).2.2 = 3 ∨ (vget g l i n).2.2 = 4 := by
  induction l generalizing i n with
  | nil => simp [vget]
  | cons c t ih =>
    rw [vget]
    split
    · simp
    · split
      · simp
      · exact ih _ _
theorem vget_zero (g : Nat) (l : List Int) (i n : Nat) (h : (vget g l i n).2.2 ≠ 0) : (vget g l i n).1 = 0 := by
  induction l generalizing i n with
  | nil => simp [vget]
  | cons c t ih =>
    rw [vget] at h ⊢
    split
    · simp
    · rename_i h1
      rw [if_neg h1] at h
      split
      · rename_i h2
        rw [if_pos h2] at h
        simp at h
      · rename_i h2
        rw [if_neg h2] at h
        exact ih _ _ h

def vrest (r : Nat × Nat × Nat) (l : List Int) : List Int := if r.2.2 = 0 then l.drop r.2.1 else []

structure GetPost (w : World) (m : Int) (r : Nat × Nat × Nat) (l : List Int) (en : Ending) (w' : World) : Prop where mk ::
  out : ∃ v, en = .returned (.tuple #[.int .i64 m, v, .int .i64 r.2.2]) ∧ Own w' w.heap.size 5 .u8 v (vrest r l) ∧ Up w w'

theorem Rdr.new (w w' : World) {A : Option Addr} {c : Nat} {l : List Int} (h : Rd w .u8 A c l) (hb : Blk w' w.heap.size 130 #[.slice A l.length c, .int .i64 0]) (hu : Up w w') : Rdr w' w.heap.size l 0 :=
  ⟨A, c, hb, h.up hu, fun ad h0 hp => h.lt ad h0 hp⟩

set_option maxHeartbeats 1000000 in
theorem varGet_calls (A : Option Addr) (c : Nat) (l : List Int) (w : World) (h1 : Rd w .u8 A c l) (hb : l.length ≤ 140737488355328) :
    Calls Try.prog 97 #[.slice A l.length c] w (GetPost w (vget 9223372036854775807 l 0 0).1 (vget 9223372036854775807 l 0 0) l) := by
  have hN : Rdr (w.alloc (.cells #[.slice A l.length c, .int .i64 0] 130)) w.heap.size l 0 := Rdr.new w _ h1 (Blk.new _ _ _) ((Up.refl _).alloc _)
  have hU : Up w (w.alloc (.cells #[.slice A l.length c, .int .i64 0] 130)) := (Up.refl _).alloc _
  go_enter Try.func97, Try.ntmps97
  go_wp2_with fail
  refine (varNumber_calls w.heap.size 9223372036854775807 l _ hN hb (by omega)).mono ?_
  rintro e w1 hp
  obtain ⟨rfl, hx1, hr1⟩ := hp.out
  have hle := vget_le 9223372036854775807 l 0 0
  have herr := vget_err 9223372036854775807 l 0 0
  generalize hr : vget 9223372036854775807 l 0 0 = r at *
  obtain ⟨m, j, f⟩ := r
  simp only at hle herr hr1 ⊢
  have hu1 : Up w w1 := hU.thenx hx1 fun b hb e => by omega
  by_cases h0 : f = 0
  · subst h0
    rw [if_pos rfl] at hr1
    go_wp2_with fail
    refine (varEnd_ok w.heap.size _ w1 hr1 (by rw [List.length_drop]; omega)).mono ?_
    rintro e w2 ⟨v, rfl, hv, hu2⟩
    obtain ⟨B, d, rfl, hd⟩ := hv.rd
    rw [List.length_drop] at hv
    go_wp2_with fail
    go_ret3
    exact ⟨_, rfl, (hv.mono hu1.size), hu1.trans hu2⟩
  · rw [if_neg h0] at hr1
    go_wp2_with fail
    refine (varEnd_bad w.heap.size _ _ w1 hr1 (by omega)).mono ?_
    rintro e w2 ⟨rfl, hu2⟩
    go_wp2_with fail
    go_ret3
    refine ⟨_, rfl, ?_, hu1.trans hu2⟩
    unfold vrest
    rw [if_neg h0]
    exact Own.nil _ _ _ _

end Go.Proofs.Ytneliajeokajbaa
