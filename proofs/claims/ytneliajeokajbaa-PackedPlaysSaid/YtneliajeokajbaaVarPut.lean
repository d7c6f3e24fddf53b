/- The walks of a number's bytes. -/
import Derived.Test.YtneliajeokajbaaVarPlain
import Derived.Test.YtneliajeokajbaaLib1
namespace Go.Proofs.Ytneliajeokajbaa
open Go.RowKit
set_option maxRecDepth 100000

set_option maxHeartbeats 1000000 in
theorem varput_calls (base n : Nat) (v : Value) (xs : List Int) (w : World) (hv : Own w base 5 .u8 v xs) (hb : base ≤ w.heap.size) (hn : n < 18446744073709551616) (hx : xs.length ≤ 140737488355000) :
    Calls Try.prog 106 #[v, .int .u64 n] w fun e w' => ∃ v', e = .returned v' ∧ Own w' base 5 .u8 v' (xs ++ vput n) ∧ UpX (fun b => base ≤ b) w w' := by
  have hl := vput_len10 n hn
  obtain ⟨A, c, rfl, hrd⟩ := hv.rd
  go_enter Try.func106, Try.ntmps106
  go_wp2_with fail
  go_loopw [0, 1] (fun o i wr => ∃ (m : Nat) (d : List Int), i = .int .u64 m ∧ m ≤ n ∧ Own wr base 5 .u8 o (xs ++ d) ∧ Hid (vput n = d ++ vput m) ∧ UpX (fun b => base ≤ b) w wr) (fun _ i _ => (intOf i).toNat)
  case atStart => exact ⟨n, [], rfl, Nat.le_refl _, by simpa using hv, Lib.hid rfl, UpX.refl _ _⟩
  case round =>
    obtain ⟨m, d, rfl, hm, ho, HD, hu⟩ := hrel
    have hmx : m < 18446744073709551616 := by omega
    have hsz := hu.size
    by_cases h128 : 128 ≤ m
    · obtain ⟨A', c', rfl, hrd'⟩ := ho.rd
      have hor := or128_u8 m
      have HV := Lib.hid (vput_high m h128)
      have HDL := Lib.hid (show d.length ≤ 10 by have := congrArg List.length HD.out; rw [List.length_append] at this; omega)
      have HB := Lib.hid (InK.of_u8 (x := ((m % 128 + 128 : Nat) : Int)) (by omega) (by omega))
      have HM := Lib.hid (show ((m / 128 : Nat) : Int) = (m : Int) / 128 by omega)
      generalize ((m % 128 + 128 : Nat) : Int) = z at *
      have hlo := ho.lt
      go_wp2_with (refine wpl_push_int (t := 76) base 5 .u8 1 Try.underlying76 infoU8 _ (xs ++ d) z rfl HB.out (fun _ => rfl) (fun _ => rfl) ho (by have := HDL.out; rw [List.length_append]; omega) (by decide) (by omega) ?_; intro v1 w1 hv1 hu1)
      go_roundw
      case rel =>
        refine ⟨m / 128, d ++ [z], by rw [HM.out], by omega, by simpa using hv1, Lib.hid ?_, hu.then_ hu1 (fun i hi e => (hlo i e).1)⟩
        rw [HD.out, HV.out]; simp
      case measure => simp [intOf]; omega
    · obtain ⟨A', c', rfl, hrd'⟩ := ho.rd
      have hm2 : (m : Int) % 256 = (m : Int) := by omega
      have HV := Lib.hid (vput_low m (by omega))
      have HDL := Lib.hid (show d.length ≤ 10 by have := congrArg List.length HD.out; rw [List.length_append] at this; omega)
      have hlo := ho.lt
      go_wp2_with (refine wpl_push_int (t := 76) base 5 .u8 1 Try.underlying76 infoU8 _ (xs ++ d) m rfl (InK.of_u8 (by omega) (by omega)) (fun _ => rfl) (fun _ => rfl) ho (by have := HDL.out; rw [List.length_append]; omega) (by decide) (by omega) ?_; intro v1 w1 hv1 hu1)
      go_ret
      refine ⟨_, rfl, ?_, hu.then_ hu1 (fun i hi e => (hlo i e).1)⟩
      rw [HD.out, HV.out]
      simpa using hv1
set_option maxHeartbeats 1000000 in
theorem varPut_calls (A : Option Addr) (c : Nat) (l : List Int) (w : World) (h1 : Rd w .i64 A c l) (hb : 10 * l.length ≤ 140737488355000) :
    Calls Try.prog 90 #[.slice A l.length c] w (RetOwn w 5 .u8 (vputs l)) := by
  go_enter Try.func90, Try.ntmps90
  go_wp2_with fail
  go_loopw [3, 5, 8] (fun o _ i wr => ∃ k : Nat, k ≤ l.length ∧ i = .int .i64 k ∧ Own wr w.heap.size 5 .u8 o ((l.take k).map (fun x => vput x.toNat)).flatten ∧ (∀ x ∈ l.take k, 0 ≤ x) ∧ Up w wr) (fun _ _ i _ => l.length - (intOf i).toNat)
  case atStart => exact ⟨0, by omega, rfl, by simpa using Own.nil _ _ _ _, by simp, Up.refl _⟩
  case round =>
    obtain ⟨k, hk, rfl, ho, hpos, hu⟩ := hrel
    by_cases hlt : k < l.length
    · obtain ⟨ad, x, rfl, hcell, HX, hxr⟩ := h1.get k hlt
      have hcell' := hu.cell hcell
      have hx2 := hxr.i64
      have HT := Lib.hid (take_succ_getD l k 0 hlt)
      by_cases h0 : 0 ≤ x
      · obtain ⟨m, rfl⟩ := Int.eq_ofNat_of_zero_le h0
        have hlen : ((l.take k).map (fun x => vput x.toNat)).flatten.length ≤ 140737488355000 := by
          have := vflat_len (l.take k) (fun x hx => h1.wf x (List.mem_of_mem_take hx))
          have h2 := List.length_take_le' k l
          omega
        have hmod : (m : Int) % 18446744073709551616 = (m : Int) := by omega
        have HL := Lib.hid hlen
        have HP := Lib.hid hpos
        clear hlen hpos
        generalize hD : ((l.take k).map (fun x => vput x.toNat)).flatten = D at *
        have HD := Lib.hid hD
        clear hD
        go_wp2_with fail
        refine (varput_calls w.heap.size m _ D wr ho hu.size (by omega) HL.out).mono ?_
        rintro e w2 ⟨v2, rfl, hv2, hu2⟩
        go_wp2_with fail
        go_roundw
        case rel =>
          refine ⟨k + 1, by omega, by simp, ?_, ?_, hu.thenx hu2 fun i hi e => by omega⟩
          · rw [HT.out, HX.out, List.map_append, List.flatten_append, HD.out]
            simpa using hv2
          · rw [HT.out, HX.out]
            intro y hy
            rcases List.mem_append.1 hy with h3 | h3
            · exact HP.out y h3
            · simp only [List.mem_cons, List.not_mem_nil, or_false] at h3
              omega
        case measure => simp [intOf]; omega
      · have HN := Lib.hid (vputs_none l x (by rw [← HX.out, List.getD_eq_getElem?_getD, List.getElem?_eq_getElem hlt]; exact List.getElem_mem hlt) (by omega))
        go_wp2_with fail
        go_ret
        rw [HN.out]
        exact RetOwn.of (Own.nil _ _ _ _) hu
    · have hke : k = l.length := by omega
      subst hke
      rw [List.take_length] at ho hpos
      have HS := Lib.hid (vputs_some l hpos)
      clear hpos
      go_wp2_with fail
      go_ret
      rw [HS.out]
      exact RetOwn.of ho hu

theorem varPut_n {A : Option Addr} {c n : Nat} {l : List Int} {w : World} (h1 : Rd w .i64 A c l) (hb : 10 * l.length ≤ 140737488355000) (hn : n = l.length) :
    Calls Try.prog 90 #[.slice A n c] w (RetOwn w 5 .u8 (vputs l)) := by
  subst hn
  exact varPut_calls A c l w h1 hb

end Go.Proofs.Ytneliajeokajbaa
