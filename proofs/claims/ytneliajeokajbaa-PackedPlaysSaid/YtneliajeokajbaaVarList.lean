/- The walks of varint's List, GetList and of the document's List. -/
import Derived.Test.YtneliajeokajbaaVarGet
import Derived.Test.YtneliajeokajbaaVarPuts
namespace Go.Proofs.Ytneliajeokajbaa
open Go.RowKit
set_option maxRecDepth 100000

theorem infoInt : (Try.prog.info? 3).map (fun i => (i.zero, i.size, i.bytes)) = some (some (.int .i64 0), 1, 8) := by kernel_rfl

theorem vputs_len (l : List Int) (h : ∀ x ∈ l, InK .i64 x) : (vputs l).length ≤ 10 * l.length := by
  unfold vputs
  split
  · exact vflat_len l h
  · simp
theorem vputs_ge (l : List Int) (h : ∀ x ∈ l, 0 ≤ x) : l.length ≤ (vputs l).length := by
  rw [vputs_some l h]
  clear h
  induction l with
  | nil => simp
  | cons x t ih =>
    have := vput_pos x.toNat
    simp only [List.map_cons, List.flatten_cons, List.length_append, List.length_cons]
    omega

set_option maxHeartbeats 1000000 in
theorem varList_neg (A : Option Addr) (c : Nat) (l : List Int) (w : World) (h1 : Rd w .i64 A c l) (hb : 10 * l.length ≤ 140737488355000) (hn : ¬ ∀ x ∈ l, 0 ≤ x) :
    Calls Try.prog 93 #[.slice A l.length c] w (RetOwn w 5 .u8 []) := by
  have HN : Hid (vputs l = []) := Lib.hid (by unfold vputs; rw [if_neg hn])
  have hl0 : 0 < l.length := by
    rcases Nat.eq_zero_or_pos l.length with h | h
    · rw [List.eq_nil_of_length_eq_zero h] at hn
      exact absurd (by simp) hn
    · exact h
  have hlen := h1.len
  clear hn
  go_enter Try.func93, Try.ntmps93
  go_wp2_with fail
  refine (varPut_calls A c l w h1 hb).mono ?_
  rw [HN.out]
  rintro e w1 ⟨v1, rfl, hv1, hu1⟩
  obtain ⟨B1, d1, rfl, hr1⟩ := hv1.rd
  go_wp2_with fail
  go_ret
  exact RetOwn.of (Own.nil _ _ _ _) hu1

set_option maxHeartbeats 1000000 in
theorem varList_pos (A : Option Addr) (c : Nat) (l : List Int) (w : World) (h1 : Rd w .i64 A c l) (hb : 10 * l.length ≤ 140737488355000) (hn : ∀ x ∈ l, 0 ≤ x) :
    Calls Try.prog 93 #[.slice A l.length c] w (RetOwn w 5 .u8 (vput l.length ++ vputs l)) := by
  have HG := Lib.hid (vputs_ge l hn)
  have HL := Lib.hid (vputs_len l h1.wf)
  have hlen := h1.len
  clear hn
  go_enter Try.func93, Try.ntmps93
  go_wp2_with fail
  refine (varPut_calls A c l w h1 hb).mono ?_
  generalize hp : vputs l = p at *
  clear hp
  rintro e w1 ⟨v1, rfl, hv1, hu1⟩
  obtain ⟨B1, d1, rfl, hr1⟩ := hv1.rd
  have hge := HG.out
  have hr2 := rd_one w1 .i64 3 (l.length : Int) (InK.of_i64 (by omega) (by omega))
  have hu2 : Up w1 (w1.alloc (.cells #[.int .i64 l.length] 3)) := (Up.refl _).alloc _
  have hlt1 := hv1.lt
  have HVP := Lib.hid (vput_len10 l.length (by omega))
  go_wp2_with fail
  refine (varPut_n hr2 (by simp) rfl).mono ?_
  rw [vputs_one _ (by omega), Int.toNat_natCast]
  rintro e w3 ⟨v3, rfl, hv3, hu3⟩
  have hv3' := hv3.mono (show w1.heap.size ≤ (w1.alloc (.cells #[.int .i64 l.length] 3)).heap.size by simp)
  go_wp2_with (refine wpl_append (t := 76) w1.heap.size 5 .u8 1 Try.underlying76 infoU8 v3 _ rfl hv3' B1 _ d1 p rfl rfl ((hr1.up hu2).up hu3) (by have := HVP.out; have := HL.out; omega) (by decide) (hu2.trans hu3).size ?_; intro v4 w4 hv4 hu4 _)
  go_ret
  exact RetOwn.of (hv4.mono hu1.size) (hu1.trans ((hu2.trans hu3).thenx hu4 fun i hi e => by have := (hv3'.lt i e).1; omega))

set_option maxHeartbeats 1000000 in
theorem ref2List_calls (A : Option Addr) (c : Nat) (l : List Int) (w : World) (h1 : Rd w .i64 A c l) (hb : 10 * l.length ≤ 140737488355000) (hn : ∀ x ∈ l, 0 ≤ x) :
    Calls Try.prog 71 #[.slice A l.length c] w (RetOwn w 5 .u8 (vput l.length ++ vputs l)) := by
  have hlen := h1.len
  have HN := Lib.hid hn
  clear hn
  have HVP := Lib.hid (vput_len10 l.length (by omega))
  go_enter Try.func71, Try.ntmps71
  go_wp2_with fail
  refine (ref2Put_calls l.length w (by omega)).mono ?_
  rintro e w1 ⟨v1, rfl, hv1, hu1⟩
  go_wp2_with fail
  go_loopw [3, 4] (fun o i wr => ∃ k : Nat, k ≤ l.length ∧ i = .int .i64 k ∧ Own wr w.heap.size 5 .u8 o (vput l.length ++ ((l.take k).map (fun x => vput x.toNat)).flatten) ∧ Up w wr) (fun _ i _ => l.length - (intOf i).toNat)
  case atStart => exact ⟨0, by omega, rfl, by simpa using hv1, hu1⟩
  case round =>
    obtain ⟨k, hk, rfl, ho, hu⟩ := hrel
    by_cases hlt : k < l.length
    · obtain ⟨ad, x, rfl, hcell, HX, hxr⟩ := h1.get k hlt
      have hcell' := hu.cell hcell
      have hx2 := hxr.i64
      have HT := Lib.hid (take_succ_getD l k 0 hlt)
      have h0 : 0 ≤ x := by
        have := HN.out (l.getD k 0) (by rw [List.getD_eq_getElem?_getD, List.getElem?_eq_getElem hlt]; exact List.getElem_mem hlt)
        rwa [HX.out] at this
      obtain ⟨m, rfl⟩ := Int.eq_ofNat_of_zero_le h0
      have HDL := Lib.hid (show ((l.take k).map (fun x => vput x.toNat)).flatten.length ≤ 10 * l.length by
        have := vflat_len (l.take k) (fun x hx => h1.wf x (List.mem_of_mem_take hx))
        have h2 := List.length_take_le' k l
        omega)
      have HML := Lib.hid (vput_len10 m (by omega))
      generalize hD : ((l.take k).map (fun x => vput x.toNat)).flatten = D at *
      have HD := Lib.hid hD
      clear hD
      have hlo := ho.lt
      go_wp2_with fail
      refine (ref2Put_calls m wr (by omega)).mono ?_
      rintro e w2 ⟨v2, rfl, hv2, hu2⟩
      obtain ⟨B2, d2, rfl, hr2⟩ := hv2.rd
      have hU2 := hu.trans hu2
      go_wp2_with (refine wpl_append (t := 76) w.heap.size 5 .u8 1 Try.underlying76 infoU8 u3 _ rfl (ho.up hu2) B2 _ d2 (vput m) rfl rfl hr2 (by have := HVP.out; have := HDL.out; have := HML.out; rw [List.length_append]; omega) (by decide) hU2.size ?_; intro v4 w4 hv4 hu4 _)
      go_roundw
      case rel =>
        refine ⟨k + 1, by omega, by simp, ?_, hU2.thenx hu4 fun i hi e => by have := (hlo i e).1; omega⟩
        rw [HT.out, HX.out, List.map_append, List.flatten_append, HD.out]
        simpa using hv4
      case measure => simp [intOf]; omega
    · have hke : k = l.length := by omega
      subst hke
      rw [List.take_length, ← vputs_some l HN.out] at ho
      go_wp2_with fail
      go_ret
      exact RetOwn.of ho hu
end Go.Proofs.Ytneliajeokajbaa
