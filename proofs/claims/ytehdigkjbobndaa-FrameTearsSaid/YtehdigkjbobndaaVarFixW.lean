/- The walks of varint's Fixed and GetFixed. -/
import Derived.Test.YtehdigkjbobndaaVarPlain
import Derived.Test.YtehdigkjbobndaaCrcM2
import Derived.OwnWalk
namespace Go.Proofs.Ytehdigkjbobndaa
open Go.RowKit
set_option maxRecDepth 100000

theorem madeCells_int (k : IntKind) (n : Nat) : (madeCells (Value.int k 0).cells (n * 1)).toList = (List.replicate n (0 : Int)).map (Value.int k) := by
  refine List.ext_getElem (by simp [madeCells]) fun j h1 h2 => ?_
  simp [madeCells, Value.cells, Nat.mod_one]

set_option maxHeartbeats 1000000 in
theorem varFixed_calls (x : Int) (u size : Nat) (w : World) (hu : IntKind.u64.wrap x = (u : Int)) (hs : size ≤ 8) :
    Calls Try.prog 63 #[.int .i64 x, .int .i64 size] w fun e w' => ∃ v xs, e = .returned v ∧ Own w' w.heap.size 5 .u8 v xs ∧ xs.length = size ∧ Hid (∀ j, j < size → xs.getD j 0 = ((u / 2 ^ (8 * j) % 256 : Nat) : Int)) ∧ Up w w' := by
  obtain ⟨i, hi, hz, hsz, hby⟩ := info_parts infoU8
  go_enter Try.func63, Try.ntmps63
  go_wp2_with (refine wpList_make_full _ rfl _ _ 22 rfl w.heap.size 5 i (.int .u8 0) 1 Try.underlying22 hi hz hsz .i64 .i64 size size size rfl rfl rfl rfl (by rw [hby]; omega) (by simp only [maxLen]; omega) (Nat.le_refl _) ?_
               intro w1 hr1 hg1)
  have ho1 : Own w1 w.heap.size 5 .u8 (.slice (some ⟨w.heap.size, 0, none⟩) size size) (List.replicate size 0) := by
    refine ⟨?_, fun y hy => by rw [List.eq_of_mem_replicate hy]; exact InK.of_u8 (by omega) (by omega)⟩
    rw [madeCells_int] at hr1
    rw [List.length_replicate]
    exact hr1
  have hU1 : Up w w1 := (Up.refl w).grown hg1 (fun k h => by cases h)
  go_loopw [6, 17] (fun _ i wr => ∃ (k : Nat) (xs : List Int), k ≤ size ∧ i = .int .i64 k ∧ Own wr w.heap.size 5 .u8 (.slice (some ⟨w.heap.size, 0, none⟩) size size) xs ∧ Hid (xs.length = size) ∧ Hid (∀ j, j < k → xs.getD j 0 = ((u / 2 ^ (8 * j) % 256 : Nat) : Int)) ∧ Up w wr) (fun _ i _ => size - (intOf i).toNat)
  case atStart => exact ⟨0, _, by omega, rfl, ho1, Lib.hid (by simp), Lib.hid (fun j hj => by omega), hU1⟩
  case round =>
    obtain ⟨k, xs, hk, rfl, ho, HXL, HX, hU⟩ := hrel
    by_cases hlt : k < size
    · obtain ⟨g, c, hveq, hbg, hc, hf, hst⟩ := ho.store k (by have := HXL.out; omega)
      have hge : g = w.heap.size := by
        simp only [Value.slice.injEq, Option.some.injEq, Addr.mk.injEq] at hveq
        omega
      subst hge
      have hN := hst (((u / 2 ^ (8 * k) % 256 : Nat)) : Int) (InK.of_u8 (by omega) (by omega))
      have hsh : (u : Int) / 2 ^ (8 * k) % 256 = ((u / 2 ^ (8 * k) % 256 : Nat) : Int) := by
        rw [Int.natCast_emod, Int.natCast_ediv]
        first | rfl | norm_cast
      have HB := Lib.hid (show u / 2 ^ (8 * k) % 256 < 256 by omega)
      generalize hz2 : u / 2 ^ (8 * k) % 256 = z at *
      have HZ := Lib.hid hz2
      clear hz2
      have hset : Up w (wr.setCell ⟨w.heap.size, k, none⟩ (.int .u8 z)) := hU.setCell (p := ⟨w.heap.size, k, none⟩) (Nat.le_refl _) _
      go_wp2_with fail
      go_roundw
      case rel =>
        refine ⟨k + 1, xs.set k (z : Int), by omega, by simp, hN, Lib.hid (by simp), Lib.hid (fun j hj => ?_), hset⟩
        have hkl : k < xs.length := by have := HXL.out; omega
        by_cases hjk : j = k
        · subst hjk
          rw [HZ.out, List.getD_eq_getElem?_getD, List.getElem?_set_self hkl]
          rfl
        · rw [← HX.out j (by omega), List.getD_eq_getElem?_getD, List.getD_eq_getElem?_getD, List.getElem?_set_ne (by omega)]
      case measure => simp [intOf]; omega
    · have hke : k = size := by omega
      subst hke
      go_wp2_with fail
      go_ret
      exact ⟨_, xs, rfl, ho, HXL.out, HX, hU⟩

/-- The number that bytes are, the lowest first. -/
def val : List Int → Nat
  | [] => 0
  | c :: t => c.toNat + 256 * val t
theorem val_snoc (l : List Int) (c : Int) : val (l ++ [c]) = val l + c.toNat * 2 ^ (8 * l.length) := by
  induction l with
  | nil => simp [val]
  | cons d t ih =>
    have h : 2 ^ (8 * (t.length + 1)) = 256 * 2 ^ (8 * t.length) := by rw [show 8 * (t.length + 1) = 8 * t.length + 8 by omega, Nat.pow_add, Nat.mul_comm]
    rw [List.cons_append, val, val, ih, List.length_cons, h, Nat.mul_add, ← Nat.mul_assoc, ← Nat.mul_assoc, Nat.mul_comm 256 c.toNat]
    omega
theorem val_lt (l : List Int) (h : ∀ x ∈ l, InK .u8 x) : val l < 2 ^ (8 * l.length) := by
  induction l with
  | nil => simp [val]
  | cons d t ih =>
    have h2 : 2 ^ (8 * (t.length + 1)) = 256 * 2 ^ (8 * t.length) := by rw [show 8 * (t.length + 1) = 8 * t.length + 8 by omega, Nat.pow_add, Nat.mul_comm]
    have h3 := ih fun x hx => h x (by simp [hx])
    have h4 := (h d (by simp)).u8
    rw [val, List.length_cons, h2]
    omega

structure FixPost (w : World) (m : Nat) (f : Nat) (rest : List Int) (en : Ending) (w' : World) : Prop where mk ::
  out : ∃ v, en = .returned (.tuple #[.int .i64 m, v, .int .i64 f]) ∧ Own w' w.heap.size 5 .u8 v rest ∧ Up w w'

set_option maxHeartbeats 1000000 in
theorem varGetFixed_arg (A : Option Addr) (c : Nat) (l : List Int) (s : Int) (w : World) (_ : Rd w .u8 A c l) (hs : InK .i64 s) (hbad : s < 1 ∨ 8 < s) :
    Calls Try.prog 75 #[.slice A l.length c, .int .i64 s] w (FixPost w 0 1 []) := by
  have hs2 := hs.i64
  go_enter Try.func75, Try.ntmps75
  go_wp2_with fail
  all_goals
    (go_ret3
     exact ⟨_, rfl, Own.nil _ _ _ _, Up.refl _⟩)

set_option maxHeartbeats 1000000 in
theorem varGetFixed_end (A : Option Addr) (c : Nat) (l : List Int) (s : Nat) (w : World) (_ : Rd w .u8 A c l) (hs : 1 ≤ s) (hs8 : s ≤ 8) (hl : l.length < s) :
    Calls Try.prog 75 #[.slice A l.length c, .int .i64 s] w (FixPost w 0 4 []) := by
  go_enter Try.func75, Try.ntmps75
  go_wp2_with fail
  all_goals
    (go_ret3
     exact ⟨_, rfl, Own.nil _ _ _ _, Up.refl _⟩)

def fixM (a : Nat) : Nat := if 9223372036854775807 < a then 0 else a
def fixF (a : Nat) : Nat := if 9223372036854775807 < a then 3 else 0
def fixR (a : Nat) (l : List Int) : List Int := if 9223372036854775807 < a then [] else l

set_option maxHeartbeats 2000000 in
theorem varGetFixed_calls (A : Option Addr) (c : Nat) (l : List Int) (s : Nat) (w : World) (h1 : Rd w .u8 A c l) (hs : 1 ≤ s) (hs8 : s ≤ 8) (hl : s ≤ l.length) (hb : l.length ≤ 140737488355328) :
    Calls Try.prog 75 #[.slice A l.length c, .int .i64 s] w (FixPost w (fixM (val (l.take s))) (fixF (val (l.take s))) (fixR (val (l.take s)) (l.drop s))) := by
  have hlc := h1.le
  have hsc : (s : Int) ≤ (c : Int) := by omega
  go_enter Try.func75, Try.ntmps75
  go_wp2_with fail
  go_loopw [7, 8, 9, 26] (fun n _ _ i wr => ∃ k : Nat, k ≤ s ∧ i = .int .i64 k ∧ n = .int .u64 (val (l.take k)) ∧ w = wr) (fun _ _ _ i _ => s - (intOf i).toNat)
  case atStart => exact ⟨0, by omega, rfl, rfl, rfl⟩
  case round =>
    obtain ⟨k, hk, rfl, rfl, rfl⟩ := hrel
    by_cases hlt : k < s
    · obtain ⟨ad, x, rfl, hcell, HX, hxr⟩ := h1.get k (by omega)
      have hx2 := hxr.u8
      obtain ⟨y, rfl⟩ := Int.eq_ofNat_of_zero_le hx2.1
      have hlk : (l.take k).length = k := by rw [List.length_take]; omega
      have HV := Lib.hid (show val (l.take (k + 1)) = val (l.take k) + y * 2 ^ (8 * k) by
        rw [take_succ_getD l k 0 (by omega), val_snoc, HX.out, hlk]
        simp)
      have hm := val_lt (l.take k) (fun x hx => h1.wf x (List.mem_of_mem_take hx))
      rw [hlk] at hm
      have hm2 := val_lt (l.take (k + 1)) (fun x hx => h1.wf x (List.mem_of_mem_take hx))
      have hlk1 : (l.take (k + 1)).length = k + 1 := by rw [List.length_take]; omega
      rw [hlk1, HV.out] at hm2
      have hp : 2 ^ (8 * (k + 1)) ≤ 18446744073709551616 := by
        have := Nat.pow_le_pow_right (n := 2) (by omega) (show 8 * (k + 1) ≤ 64 by omega)
        have h4 : (2 : Nat) ^ 64 = 18446744073709551616 := by decide
        omega
      have hor := or_shift (val (l.take k)) y _ (8 * k) rfl hm (by omega) (by omega)
      have hT : (2 : Int) ^ (8 * k) = ((2 ^ (8 * k) : Nat) : Int) := by simp
      rw [← hT, ← HV.out] at hor
      clear hm hm2 hp hT HV hlk hlk1
      generalize val (l.take k) = a at *
      have h8 : 8 * (k : Int) ≤ 56 := by omega
      go_wp2_with fail
      go_roundw
      case rel => exact ⟨k + 1, by omega, by simp, rfl, trivial⟩
      case measure => simp [intOf]; omega
    · have hke : k = s := by omega
      subst hke
      by_cases hbig : 9223372036854775807 < val (l.take k)
      · have e1 := Lib.hid (show fixM (val (l.take k)) = 0 from if_pos hbig)
        have e2 := Lib.hid (show fixF (val (l.take k)) = 3 from if_pos hbig)
        have e3 := Lib.hid (show fixR (val (l.take k)) (l.drop k) = [] from if_pos hbig)
        generalize val (l.take k) = a at *
        go_wp2_with fail
        go_ret3
        rw [e1.out, e2.out, e3.out]
        exact ⟨_, rfl, Own.nil _ _ _ _, Up.refl _⟩
      · have e1 := Lib.hid (show fixM (val (l.take k)) = val (l.take k) from if_neg hbig)
        have e2 := Lib.hid (show fixF (val (l.take k)) = 0 from if_neg hbig)
        have e3 := Lib.hid (show fixR (val (l.take k)) (l.drop k) = l.drop k from if_neg hbig)
        generalize val (l.take k) = a at *
        have hd := h1.drop_ k hl
        by_cases hck : c = k
        · rw [if_pos hck] at hd
          subst hck
          simp only [Nat.sub_self] at hd
          go_wp2_with fail
          refine (bytesClone_n hd (by rw [List.length_drop]; omega) (by simp; try omega)).mono ?_
          rintro e w1 ⟨v, rfl, hv, hu⟩
          obtain ⟨B, d, rfl, hr⟩ := hv.rd
          rw [List.length_drop, show l.length - c = 0 by omega] at hv
          go_wp2_with fail
          go_ret3
          rw [e1.out, e2.out, e3.out]
          exact ⟨_, rfl, hv, hu⟩
        · rw [if_neg hck] at hd
          go_wp2_with fail
          refine (bytesClone_n hd (by rw [List.length_drop]; omega) (by simp; try omega)).mono ?_
          rintro e w1 ⟨v, rfl, hv, hu⟩
          obtain ⟨B, d, rfl, hr⟩ := hv.rd
          rw [List.length_drop] at hv
          go_wp2_with fail
          go_ret3
          rw [e1.out, e2.out, e3.out]
          exact ⟨_, rfl, hv, hu⟩
end Go.Proofs.Ytehdigkjbobndaa
