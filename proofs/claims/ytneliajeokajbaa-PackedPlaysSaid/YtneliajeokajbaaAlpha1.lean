/- Layer 14: the walks of Pattern, Text and of the document's Text; lists of whole numbers compared. -/
import Derived.Test.YtneliajeokajbaaVarList
namespace Go.Proofs.Ytneliajeokajbaa
open Go.RowKit
set_option maxRecDepth 100000

def pattern (b : List Int) : List Int := b.map (fun c => 2 + c)
theorem pattern_wf (b : List Int) (h : ∀ x ∈ b, InK .u8 x) : ∀ x ∈ pattern b, InK .i64 x := by
  intro x hx
  obtain ⟨y, hy, rfl⟩ := List.mem_map.1 hx
  have := (h y hy).u8
  exact InK.of_i64 (by omega) (by omega)
def textOf (ds : List (List Int)) : List Int := (ds.map (fun d => pattern d ++ [1])).flatten
theorem textOf_snoc (ds : List (List Int)) (d : List Int) : textOf (ds ++ [d]) = textOf ds ++ (pattern d ++ [1]) := by
  unfold textOf
  rw [List.map_append, List.flatten_append]
  simp

set_option maxHeartbeats 1000000 in
theorem ref6Same_calls (A B : Option Addr) (c d : Nat) (l m : List Int) (w : World) (h1 : Rd w .i64 A c l) (h2 : Rd w .i64 B d m) :
    Calls Try.prog 16 #[.slice A l.length c, .slice B m.length d] w fun e w' => e = .returned (.bool (decide (l = m))) ∧ Qt w w' := by
  have hl1 := h1.len
  have hl2 := h2.len
  by_cases hlen : l.length = m.length
  · have Hlen := Lib.hid hlen
    have b1 : ((l.length : Int) != (m.length : Int)) = false := by simp [hlen]
    have b2 : (l.length != m.length) = false := by simp [hlen]
    clear hlen
    go_enter Try.func16, Try.ntmps16
    go_wp2
    go_loopw [5] (fun i wr => ∃ k : Nat, k ≤ l.length ∧ i = .int .i64 k ∧ Hid (∀ j, j < k → l.getD j 0 = m.getD j 0) ∧ Qt w wr) (fun i _ => l.length - (intOf i).toNat)
    case atStart => exact ⟨0, by omega, rfl, (fun j hj => absurd hj (by omega)), Qt.refl _⟩
    case round =>
      obtain ⟨k, hk, rfl, HE, hq⟩ := hrel
      obtain ⟨n, rfl⟩ := hq.out
      by_cases hlt : k < l.length
      · have hltm : k < m.length := by rw [← Hlen.out]; exact hlt
        obtain ⟨a1, x, rfl, c1, HX, _⟩ := h1.get k hlt
        obtain ⟨a2, y, rfl, c2, HY, _⟩ := h2.get k hltm
        by_cases he : x = y
        · subst he
          go_wp2
          go_quiet (fail)
          go_wp2
          go_roundw
          case rel => exact ⟨k + 1, by omega, by go_num, (fun j hj => by rcases Nat.lt_succ_iff_lt_or_eq.1 hj with h | rfl; exact HE.out j h; exact HX.out.trans HY.out.symm), (by first | exact ⟨⟨_, rfl⟩⟩ | exact Qt.drewN hq _ | exact hq)⟩
          case measure => simp [intOf]; omega
        · have hb : (x != y) = true := by simpa using he
          have Hne := Lib.hid (show l ≠ m from fun e => he (by rw [← HX.out, ← HY.out, e]))
          clear he
          go_wp2
          go_quiet (fail)
          go_wp2
          go_ret
          exact ⟨by simp [Hne.out], (by first | exact ⟨⟨_, rfl⟩⟩ | exact Qt.drewN hq _ | exact hq)⟩
      · obtain rfl : k = l.length := by omega
        have e : l = m := eq_of_getD Hlen.out HE.out
        go_wp2
        go_ret
        exact ⟨by simp [e], (by first | exact ⟨⟨_, rfl⟩⟩ | exact Qt.drewN hq _ | exact hq)⟩
  · have b1 : ((l.length : Int) != (m.length : Int)) = true := by simp; omega
    have hne : l ≠ m := fun e => hlen (by rw [e])
    have Hne := Lib.hid hne
    clear hlen hne
    go_enter Try.func16, Try.ntmps16
    go_wp2
    go_ret
    exact ⟨by simp [Hne.out], Qt.refl _⟩
theorem ref6Same_n {A B : Option Addr} {c d n m : Nat} {l k : List Int} {w : World} (h1 : Rd w .i64 A c l) (h2 : Rd w .i64 B d k) (hn : n = l.length) (hm : m = k.length) :
    Calls Try.prog 16 #[.slice A n c, .slice B m d] w fun e w' => e = .returned (.bool (decide (l = k))) ∧ Qt w w' := by
  subst hn hm
  exact ref6Same_calls A B c d l k w h1 h2
theorem ref6Same_eq {A B : Option Addr} {c d n m : Nat} {l k : List Int} {w : World} (h1 : Rd w .i64 A c l) (h2 : Rd w .i64 B d k) (hn : n = l.length) (hm : m = k.length) (h : l = k) :
    Calls Try.prog 16 #[.slice A n c, .slice B m d] w fun e w' => e = .returned (.bool true) ∧ Qt w w' := by
  have := ref6Same_n h1 h2 hn hm
  rwa [decide_eq_true h] at this

set_option maxHeartbeats 1000000 in
theorem alphaPattern_calls (A : Option Addr) (c : Nat) (b : List Int) (w : World) (h1 : Rd w .u8 A c b) (hb : b.length ≤ 1000000000000) :
    Calls Try.prog 60 #[.slice A b.length c] w (RetOwn w 3 .i64 (pattern b)) := by
  go_enter Try.func60, Try.ntmps60
  go_wp2_with fail
  go_loopw [3, 5, 8] (fun o _ i wr => ∃ k : Nat, k ≤ b.length ∧ i = .int .i64 k ∧ Own wr w.heap.size 3 .i64 o (pattern (b.take k)) ∧ Up w wr) (fun _ _ i _ => b.length - (intOf i).toNat)
  case atStart => exact ⟨0, by omega, rfl, by simpa [pattern] using Own.nil _ _ _ _, Up.refl _⟩
  case round =>
    obtain ⟨k, hk, rfl, ho, hu⟩ := hrel
    by_cases hlt : k < b.length
    · obtain ⟨ad, x, rfl, hcell, HX, hxr⟩ := h1.get k hlt
      have hcell' := hu.cell hcell
      have hx2 := hxr.u8
      have HT := Lib.hid (show pattern (b.take (k + 1)) = pattern (b.take k) ++ [2 + x] by rw [take_succ_getD b k 0 hlt, HX.out]; simp [pattern])
      have HL := Lib.hid (show (pattern (b.take k)).length ≤ b.length by simp [pattern]; omega)
      have hi := InK.of_i64 (x := 2 + x) (by omega) (by omega)
      have hlo := ho.lt
      go_wp2_with (refine wpl_push_int (t := 23) w.heap.size 3 .i64 8 Try.underlying23 infoInt u3 _ (2 + x) rfl hi (fun _ => rfl) (fun _ => rfl) ho (by have := HL.out; omega) (by decide) hu.size ?_; intro v1 w1 hv1 hu1)
      go_roundw
      case rel => exact ⟨k + 1, by omega, by simp, by rw [HT.out]; exact hv1, hu.thenx hu1 fun i hi e => by have := (hlo i e).1; omega⟩
      case measure => simp [intOf]; omega
    · have hke : k = b.length := by omega
      subst hke
      rw [List.take_length] at ho
      go_wp2_with fail
      go_ret
      exact RetOwn.of ho hu

theorem textOf_take (ds : List (List Int)) (k : Nat) : (textOf (ds.take k)).length ≤ (textOf ds).length := by
  have e : textOf ds = textOf (ds.take k) ++ textOf (ds.drop k) := by
    conv => lhs; rw [← List.take_append_drop k ds]
    unfold textOf
    rw [List.map_append, List.flatten_append]
  rw [e, List.length_append]
  omega

set_option maxHeartbeats 2000000 in
theorem alphaText_calls (A : Option Addr) (c : Nat) (ds : List (List Int)) (w : World) (hl : RdL w .u8 A c ds) (hb : (textOf ds).length ≤ 65535) :
    Calls Try.prog 14 #[.slice A ds.length c] w fun e w' => ∃ v, e = .returned (.tuple #[v, .int .i64 0]) ∧ Own w' w.heap.size 3 .i64 v (textOf ds ++ [0]) ∧ Up w w' := by
  have hlen := hl.len
  have HB := Lib.hid hb
  clear hb
  go_enter Try.func14, Try.ntmps14
  go_wp2_with fail
  go_loopw [4, 6, 12] (fun n _ i wr => ∃ (k m : Nat), k ≤ ds.length ∧ i = .int .i64 k ∧ n = .int .i64 m ∧ Hid (m = 1 + (textOf (ds.take k)).length) ∧ w = wr) (fun _ _ i _ => ds.length - (intOf i).toNat)
  case atStart => exact ⟨0, 1, by omega, rfl, rfl, Lib.hid (by simp [textOf]), rfl⟩
  case round =>
    obtain ⟨k, m, hk, rfl, rfl, HM, rfl⟩ := hrel
    have hml : (m : Int) ≤ 65536 := by have := HM.out; have := HB.out; have := textOf_take ds k; omega
    by_cases hlt : k < ds.length
    · obtain ⟨ad, d, A', c', rfl, hcell, hrd, HL⟩ := hl.get k hlt
      have HN := Lib.hid (show m + d.length + 1 = 1 + (textOf (ds.take (k + 1))).length by
        rw [take_succ_getD ds k [] hlt, textOf_snoc, HL.out, HM.out, List.length_append, List.length_append]
        simp [pattern]
        omega)
      have hle : m + d.length + 1 ≤ 65536 := by have := HN.out; have := HB.out; have := textOf_take ds (k + 1); omega
      have hmin : (if (65537 : Int) < (m : Int) + (d.length : Int) + 1 then (65537 : Int) else (m : Int) + (d.length : Int) + 1) = ((m + d.length + 1 : Nat) : Int) := by
        rw [if_neg (by omega)]; omega
      go_wp2_with fail
      go_roundw
      case rel => exact ⟨k + 1, m + d.length + 1, by omega, by simp, by simp, HN, trivial⟩
      case measure => simp [intOf]; omega
    · clear HM
      go_wp2_with fail
      go_loopw [7, 9, 27] (fun o _ i wr => ∃ k : Nat, k ≤ ds.length ∧ i = .int .i64 k ∧ Own wr w.heap.size 3 .i64 o (textOf (ds.take k)) ∧ Up w wr) (fun _ _ i _ => ds.length - (intOf i).toNat)
      case atStart => exact ⟨0, by omega, rfl, by simpa [textOf] using Own.nil _ _ _ _, Up.refl _⟩
      case round =>
        obtain ⟨j, hj, rfl, ho, hu⟩ := hrel
        have HTL := Lib.hid (show (textOf (ds.take j)).length ≤ 65535 by have := HB.out; have := textOf_take ds j; omega)
        have hlo := ho.lt
        by_cases hlt2 : j < ds.length
        · obtain ⟨ad, d, A', c', rfl, hcell, hrd, HL⟩ := hl.get j hlt2
          have hcell' := hu.cell hcell
          have HT := Lib.hid (show textOf (ds.take (j + 1)) = textOf (ds.take j) ++ pattern d ++ [1] by rw [take_succ_getD ds j [] hlt2, textOf_snoc, HL.out, List.append_assoc])
          have HTL2 := Lib.hid (show (textOf (ds.take j)).length + (pattern d).length ≤ 65535 by
            have := HB.out
            have h2 := textOf_take ds (j + 1)
            rw [HT.out, List.length_append, List.length_append] at h2
            omega)
          have HDL := Lib.hid (show d.length ≤ 65535 by have := HTL2.out; simp [pattern] at this; omega)
          generalize textOf (ds.take j) = D at *
          go_wp2_with fail
          refine (alphaPattern_calls A' c' d wr (hrd.up hu) (by have := HDL.out; omega)).mono ?_
          rintro e w2 ⟨v2, rfl, hv2, hu2⟩
          obtain ⟨B2, d2, rfl, hr2⟩ := hv2.rd
          have hU2 := hu.trans hu2
          generalize pattern d = pd at *
          go_wp2_with (first
            | (refine wpl_append (t := 23) w.heap.size 3 .i64 8 Try.underlying23 infoInt u7 D rfl (ho.up hu2) B2 _ d2 pd rfl rfl hr2 (by have := HTL2.out; omega) (by decide) hU2.size ?_
               intro v3 w3 hv3 hu3 _
               have hU3 : Up w w3 := hU2.thenx hu3 fun i hi e => by have := (hlo i e).1; omega
               have hlo3 := hv3.lt)
            | (refine wpl_push_int (t := 23) w.heap.size 3 .i64 8 Try.underlying23 infoInt v3 (D ++ pd) 1 rfl (InK.of_i64 (by omega) (by omega)) (fun _ => rfl) (fun _ => rfl) hv3 (by have := HTL2.out; rw [List.length_append]; omega) (by decide) hU3.size ?_
               intro v4 w4 hv4 hu4))
          go_roundw
          case rel => exact ⟨j + 1, by omega, by simp, by rw [HT.out]; exact hv4, hU3.thenx hu4 fun i hi e => by have := (hlo3 i e).1; omega⟩
          case measure => simp [intOf]; omega
        · have hke : j = ds.length := by omega
          subst hke
          rw [List.take_length] at ho HTL
          go_wp2_with (refine wpl_push_int (t := 23) w.heap.size 3 .i64 8 Try.underlying23 infoInt u7 (textOf ds) 0 rfl (InK.of_i64 (by omega) (by omega)) (fun _ => rfl) (fun _ => rfl) ho (by have := HTL.out; omega) (by decide) hu.size ?_
                       intro v4 w4 hv4 hu4)
          go_ret2
          exact ⟨_, rfl, hv4, hu.thenx hu4 fun i hi e => by have := (hlo i e).1; omega⟩
end Go.Proofs.Ytneliajeokajbaa
