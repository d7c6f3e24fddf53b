/- Several texts in one: PkWid, PkFit, PkRefFits. -/
import Derived.Test.YtneliajeokajbaaPkMk
import Derived.Test.YtneliajeokajbaaShelf
import Derived.Lib.BitFns
import Derived.Lib.ItoaNum
/- Layer 12: how many bits a number has: Width, ref12.Width. -/
namespace Go.Proofs.Ytneliajeokajbaa
open Go.RowKit
set_option maxRecDepth 100000

def wd (x : Nat) : Nat := max 1 (Lib.bitLen x)
theorem bitLen_half (x : Nat) (h : 1 ≤ x) (h2 : x < 18446744073709551616) : Lib.bitLen x = 1 + Lib.bitLen (x / 2) := Lib.bitLen_half x (by omega) h2
theorem bitLen_pos (x : Nat) (h : 1 ≤ x) (h2 : x < 18446744073709551616) : 1 ≤ Lib.bitLen x := by rw [bitLen_half x h h2]; omega
theorem wd_half (x : Nat) (h : 2 ≤ x) (h2 : x < 18446744073709551616) : wd x = wd (x / 2) + 1 := by
  unfold wd
  rw [bitLen_half x (by omega) h2]
  have := bitLen_pos (x / 2) (by omega) (by omega)
  omega
theorem wd_one (x : Nat) (h : x ≤ 1) : wd x = 1 := by
  have : x = 0 ∨ x = 1 := by omega
  rcases this with rfl | rfl <;> decide
theorem wd_le (x k : Nat) (hk : 1 ≤ k) (hk2 : k ≤ 63) (h2 : x < 18446744073709551616) : wd x ≤ k ↔ x < 2 ^ k := by
  unfold wd
  constructor
  · intro h
    by_cases h0 : x = 0
    · subst h0; exact Nat.pow_pos (by decide)
    · have h3 := (Lib.bitLenAux_bounds 64 x h2 h0).2.2
      exact Nat.lt_of_lt_of_le h3 (Nat.pow_le_pow_right (by decide) (by have : Lib.bitLenAux 64 x = Lib.bitLen x := rfl; omega))
  · intro h
    have := Lib.bitLen_le x k (by omega) h
    omega
/-- P12.1. -/
def width12 (n : Int) : Nat := if 0 ≤ n ∧ n ≤ 2147483647 then wd n.toNat else 0
set_option maxHeartbeats 1000000 in
theorem packedWidth_calls (n : Int) (w : World) (hn : InK .i64 n) : Calls Try.prog 68 #[.int .i64 n] w fun e w' => e = .returned (.int .i64 (width12 n)) ∧ w = w' := by
  have hn2 := hn.i64
  by_cases h0 : n < 0
  · have HE := Lib.hid (show width12 n = 0 by unfold width12; rw [if_neg (by omega)])
    have HN : n % 18446744073709551616 = n + 18446744073709551616 := by omega
    have hle := Lib.hid (Lib.bitLen_le (n + 18446744073709551616).toNat 64 (by omega) (by omega))
    go_enter Try.func68, Try.ntmps68
    go_wp2_with fail
    rw [show IntKind.u64.wrap n = n + 18446744073709551616 by rw [u64_wrap]; omega]
    refine (Try.bits_Len64 _ w (by omega) (by omega)).mono ?_
    rintro e w' ⟨rfl, rfl⟩
    have hle' := hle.out
    go_wp2_with fail
    go_ret
    exact ⟨by rw [HE.out]; rfl, rfl⟩
  · have h00 : 0 ≤ n := by omega
    obtain ⟨x, rfl⟩ := Int.eq_ofNat_of_zero_le h00
    have HN : (x : Int) % 18446744073709551616 = x := by omega
    have hw31 := wd_le x 31 (by omega) (by omega) (by omega)
    have hle := Lib.hid (Lib.bitLen_le x 64 (by omega) (by omega))
    have HW := Lib.hid (show (wd x : Int) = max 1 (Lib.bitLen x : Int) by unfold wd; omega)
    by_cases h31 : x < 2147483648
    · have HE := Lib.hid (show (width12 (x : Int) : Int) = max (Lib.bitLen x : Int) 1 by unfold width12; rw [if_pos (by omega)]; show (wd x : Int) = _; unfold wd; omega)
      have hd : decide (31 < max (Lib.bitLen x : Int) 1) = false := decide_eq_false (by have := hw31.2 h31; unfold wd at this; omega)
      clear hw31
      go_enter Try.func68, Try.ntmps68
      go_wp2_with fail
      refine (Try.bits_Len64 _ w (by omega) (by omega)).mono ?_
      rintro e w' ⟨rfl, rfl⟩
      rw [show ((x : Int).toNat) = x by omega]
      go_wp2_with fail
      go_ret
      exact ⟨by rw [HE.out]; rfl, rfl⟩
    · have HE := Lib.hid (show width12 (x : Int) = 0 by unfold width12; rw [if_neg (by omega)])
      have hd2 : 31 < max (Lib.bitLen x : Int) 1 := by
        have h9 : ¬ wd x ≤ 31 := fun h => h31 (hw31.1 h)
        unfold wd at h9
        omega
      have hd : decide (31 < max (Lib.bitLen x : Int) 1) = true := decide_eq_true hd2
      clear hw31
      go_enter Try.func68, Try.ntmps68
      go_wp2_with fail
      refine (Try.bits_Len64 _ w (by omega) (by omega)).mono ?_
      rintro e w' ⟨rfl, rfl⟩
      rw [show ((x : Int).toNat) = x by omega]
      go_wp2_with fail
      go_ret
      exact ⟨by rw [HE.out]; rfl, rfl⟩
set_option maxHeartbeats 1000000 in
theorem ref12Width_calls (n : Int) (w : World) (hn : InK .i64 n) : Calls Try.prog 69 #[.int .i64 n] w fun e w' => e = .returned (.int .i64 (width12 n)) ∧ w = w' := by
  have hn2 := hn.i64
  by_cases h0 : n < 0
  · have HE := Lib.hid (show width12 n = 0 by unfold width12; rw [if_neg (by omega)])
    go_enter Try.func69, Try.ntmps69
    go_wp2_with fail
    go_ret
    exact ⟨by rw [HE.out]; rfl, rfl⟩
  · have hd0 : decide (n < 0) = false := decide_eq_false h0
    have h00 : 0 ≤ n := by omega
    by_cases h31 : 2147483647 < n
    · have HE := Lib.hid (show width12 n = 0 by unfold width12; rw [if_neg (by omega)])
      clear h0
      go_enter Try.func69, Try.ntmps69
      go_wp2_with fail
      go_ret
      exact ⟨by rw [HE.out]; rfl, rfl⟩
    · have hd1 : decide (2147483647 < n) = false := decide_eq_false h31
      have h32 : n ≤ 2147483647 := by omega
      clear h31 h0
      obtain ⟨x, rfl⟩ := Int.eq_ofNat_of_zero_le h00
      have HE := Lib.hid (show width12 (x : Int) = wd x by unfold width12; rw [if_pos (by omega)]; rfl)
      go_enter Try.func69, Try.ntmps69
      go_wp2_with fail
      go_loopw [0, 3] (fun g n wr => ∃ k m : Nat, g = .int .i64 k ∧ n = .int .i64 m ∧ k ≤ x ∧ Hid (m + wd k = wd x + 1) ∧ m ≤ x + 1 - k ∧ w = wr) (fun g _ _ => (intOf g).toNat)
      case atStart => exact ⟨x, 1, rfl, rfl, Nat.le_refl _, Lib.hid (by omega), by omega, rfl⟩
      case round =>
        obtain ⟨k, m, rfl, rfl, hk, HM, hm, rfl⟩ := hrel
        by_cases h1 : 1 < k
        · have HH := Lib.hid (wd_half k (by omega) (by omega))
          go_wp2_with fail
          go_roundw
          case rel => exact ⟨k / 2, m + 1, by simp, by simp, by omega, Lib.hid (by have := HM.out; have := HH.out; omega), by omega, trivial⟩
          case measure => simp [intOf]; omega
        · have HH := Lib.hid (wd_one k (by omega))
          have h2 : k ≤ 1 := by omega
          clear h1
          go_wp2_with fail
          go_ret
          refine ⟨?_, rfl⟩
          have e : m = width12 (x : Int) := by rw [HE.out]; have := HM.out; have := HH.out; omega
          rw [← e]
          rfl
end Go.Proofs.Ytneliajeokajbaa

/- Layer 12: Fit, ref12.Fits. -/
namespace Go.Proofs.Ytneliajeokajbaa
open Go.RowKit
set_option maxRecDepth 100000

theorem snocInd {P : List Int → Prop} (h0 : P []) (h1 : ∀ l x, P l → P (l ++ [x])) (l : List Int) : P l := by
  have h : ∀ m : List Int, P m.reverse := fun m => by
    induction m with
    | nil => exact h0
    | cons x m ih => rw [List.reverse_cons]; exact h1 _ _ ih
  have := h l.reverse
  rwa [List.reverse_reverse] at this
/-- The width that must be. -/
def maxW (l : List Int) : Nat := l.foldl (fun m x => max m (width12 x)) 1
theorem maxW_snoc (l : List Int) (x : Int) : maxW (l ++ [x]) = max (maxW l) (width12 x) := by unfold maxW; rw [List.foldl_append]; rfl
theorem maxW_pos (l : List Int) : 1 ≤ maxW l := by
  refine snocInd (P := fun l => 1 ≤ maxW l) (by decide) (fun l x ih => ?_) l
  rw [maxW_snoc]; omega
theorem width12_le (x : Int) : width12 x ≤ 31 := by
  unfold width12
  split
  · rename_i h
    exact (wd_le x.toNat 31 (by omega) (by omega) (by omega)).2 (by omega)
  · omega
theorem maxW_le (l : List Int) : maxW l ≤ 31 := by
  refine snocInd (P := fun l => maxW l ≤ 31) (by decide) (fun l x ih => ?_) l
  rw [maxW_snoc]; have := width12_le x; omega
theorem maxW_mem {l : List Int} {x : Int} : x ∈ l → width12 x ≤ maxW l := by
  refine snocInd (P := fun l => x ∈ l → width12 x ≤ maxW l) (fun h => absurd h (by simp)) (fun l y ih h => ?_) l
  rw [maxW_snoc]
  rcases List.mem_append.1 h with h1 | h1
  · have := ih h1; omega
  · rw [List.mem_singleton.1 h1]; omega
theorem fit1_width (k : Nat) (x : Int) (h1 : 1 ≤ k) (h2 : k ≤ 31) : fit1 k x = (decide (0 ≤ x) && !decide (width12 x = 0) && decide (width12 x ≤ k)) := by
  unfold fit1 width12
  by_cases h0 : 0 ≤ x
  · rw [decide_eq_true h0, Bool.true_and, Bool.true_and]
    obtain ⟨n, rfl⟩ := Int.eq_ofNat_of_zero_le h0
    have hp : ((2 : Int) ^ k) = ((2 ^ k : Nat) : Int) := by simp
    by_cases h31 : (n : Int) ≤ 2147483647
    · rw [if_pos ⟨h0, h31⟩]
      have h3 := wd_le n k h1 (by omega) (by omega)
      have h4 : wd n ≠ 0 := by unfold wd; omega
      rw [show ((n : Int).toNat) = n by omega, decide_eq_false h4, Bool.not_false, Bool.true_and]
      rw [Bool.eq_iff_iff, decide_eq_true_eq, decide_eq_true_eq, h3, hp]
      omega
    · rw [if_neg (fun h => h31 h.2)]
      have h5 : 2 ^ k ≤ 2 ^ 31 := Nat.pow_le_pow_right (by decide) h2
      rw [decide_eq_false (by rw [hp]; omega)]
      simp
  · rw [decide_eq_false h0]; simp
theorem fitB_maxW {l : List Int} (h : fitB 31 l = true) : fitB (maxW l) l = true := by
  unfold fitB at h ⊢
  rw [List.all_eq_true] at h ⊢
  intro x hx
  have h1 := h x hx
  rw [fit1_width 31 x (by omega) (by omega)] at h1
  rw [fit1_width _ x (maxW_pos l) (maxW_le l)]
  simp only [Bool.and_eq_true] at h1 ⊢
  exact ⟨h1.1, by simpa using maxW_mem hx⟩
/-- What Fit answers. -/
structure FitPk (w : World) (m : List Int) (en : Ending) (w' : World) : Prop where mk ::
  up : Up w w'
  out : (fitB 31 m = false ∧ en = .returned (.tuple #[.pointer none, .int .i64 10])) ∨
    (fitB 31 m = true ∧ (m.length ≤ 65536 → ∃ g ws, en = .returned (.tuple #[.pointer (some ⟨g, 0, none⟩), .int .i64 0]) ∧ w.heap.size ≤ g ∧ PArr w' g w.heap.size (maxW m) m.length ws ∧ PkOk (maxW m) m.length ws m))
set_option maxHeartbeats 1000000 in
theorem packedFit_calls (B : Option Addr) (d : Nat) (m : List Int) (w : World) (hm : Rd w .i64 B d m) (hl : m.length ≤ 65536) :
    Calls Try.prog 67 #[.slice B m.length d] w (FitPk w m) := by
  go_enter Try.func67, Try.ntmps67
  go_wp2_with fail
  refine (packedFits_calls B d m 31 w hm (by omega)).mono ?_
  rintro e w1 ⟨rfl, hu1⟩
  cases hf : fitB 31 m with
  | false =>
    have HF := Lib.hid hf
    clear hf
    go_wp2_with fail
    go_ret2
    exact ⟨hu1, .inl ⟨HF.out, rfl⟩⟩
  | true =>
    have HF := Lib.hid hf
    clear hf
    have hm1 := hm.up hu1
    go_wp2_with fail
    go_loopw [4, 6, 12] (fun o _ i wr => ∃ k v : Nat, k ≤ m.length ∧ i = .int .i64 k ∧ o = .int .i64 v ∧ Hid (v = maxW (m.take k)) ∧ v ≤ 31 ∧ w1 = wr) (fun _ _ i _ => m.length - (intOf i).toNat)
    case atStart => exact ⟨0, 1, by omega, rfl, rfl, Lib.hid rfl, by omega, rfl⟩
    case round =>
      obtain ⟨k, v, hk, rfl, rfl, HV, hv, rfl⟩ := hrel
      by_cases hlt : k < m.length
      · obtain ⟨ad, x, rfl, hcell, HX, hxr⟩ := hm1.get k hlt
        have HT := Lib.hid (take_succ_getD m k 0 hlt)
        have HW := Lib.hid (width12_le x)
        go_wp2_with fail
        refine (packedWidth_calls x w1 hxr).mono ?_
        rintro e w' ⟨rfl, rfl⟩
        go_wp2_with fail
        go_roundw
        case rel =>
          refine ⟨k + 1, max v (width12 x), by omega, by simp, congrArg (Value.int .i64) (by omega), Lib.hid ?_, by have := HW.out; omega, trivial⟩
          rw [HT.out, HX.out, maxW_snoc, HV.out]
        case measure => simp [intOf]; omega
      · have hke : k = m.length := by omega
        subst hke
        go_wp2_with fail
        refine (packedNew_calls v B d m w1 hm1).mono ?_
        have HV2 := Lib.hid (show v = maxW m by have := HV.out; rwa [List.take_length] at this)
        have HP := Lib.hid (maxW_pos m)
        rintro e w2 ⟨hu2, hp⟩
        have hU := hu1.trans hu2
        rcases hp with ⟨h, _⟩ | ⟨_, h, _⟩ | ⟨_, _, h, _⟩ | ⟨_, _, _, g, ws, rfl, hg, hpa, hok⟩
        · exfalso
          unfold rightW at h
          rw [decide_eq_true (by have := HP.out; have := HV2.out; omega), decide_eq_true (by omega)] at h
          cases h
        · have h9 := fitB_maxW HF.out
          rw [← HV2.out] at h9
          exact absurd (h9.symm.trans h) (by decide)
        · omega
        · have hpa : PArr w2 g w1.heap.size v m.length ws := hpa
          have hok : PkOk v m.length ws m := hok
          go_wp2_with fail
          go_ret2
          obtain ⟨A, c, h1, h2⟩ := hpa
          have hs := hu1.size
          refine ⟨hU, .inr ⟨HF.out, fun _ => ⟨g, ws, rfl, by omega, ?_, ?_⟩⟩⟩
          · rw [← HV2.out]; exact ⟨A, c, h1, h2.mono hs⟩
          · rw [← HV2.out]; exact hok
end Go.Proofs.Ytneliajeokajbaa

/- Layer 12: ref12.Fits. -/
namespace Go.Proofs.Ytneliajeokajbaa
open Go.RowKit
set_option maxRecDepth 100000

theorem fitB_take_false {W : Nat} {l : List Int} {k : Nat} (hk : k < l.length) (h : fit1 W (l.getD k 0) = false) : fitB W l = false := by
  unfold fitB
  rw [List.all_eq_false]
  refine ⟨l.getD k 0, ?_, by rw [h]; simp⟩
  rw [List.getD_eq_getElem?_getD, List.getElem?_eq_getElem hk]
  exact List.getElem_mem _
theorem fitB_snoc (W : Nat) (l : List Int) (x : Int) : fitB W (l ++ [x]) = (fitB W l && fit1 W x) := by unfold fitB; simp
set_option maxHeartbeats 1000000 in
theorem ref12Fits_calls (W : Nat) (h1 : 1 ≤ W) (h2 : W ≤ 31) (B : Option Addr) (d : Nat) (m : List Int) (w : World) (hm : Rd w .i64 B d m) :
    Calls Try.prog 42 #[.int .i64 W, .slice B m.length d] w fun e w' => e = .returned (.bool (fitB W m)) ∧ w = w' := by
  have hml := hm.len
  go_enter Try.func42, Try.ntmps42
  go_wp2_with fail
  go_loopw [5] (fun i wr => ∃ k : Nat, k ≤ m.length ∧ i = .int .i64 k ∧ Hid (fitB W (m.take k) = true) ∧ w = wr) (fun i _ => m.length - (intOf i).toNat)
  case atStart => exact ⟨0, by omega, rfl, Lib.hid rfl, rfl⟩
  case round =>
    obtain ⟨k, hk, rfl, HF, rfl⟩ := hrel
    by_cases hlt : k < m.length
    · obtain ⟨ad, x, rfl, hcell, HX, hxr⟩ := hm.get k hlt
      have HT := Lib.hid (take_succ_getD m k 0 hlt)
      have HW1 := Lib.hid (fit1_width W x h1 h2)
      by_cases hx0 : x < 0
      · have HE := Lib.hid (show fitB W m = false from fitB_take_false hlt (by rw [HX.out, HW1.out, decide_eq_false (by omega)]; rfl))
        go_wp2_with fail
        go_ret
        exact ⟨by rw [HE.out]; rfl, rfl⟩
      · have hdx : decide (x < 0) = false := decide_eq_false hx0
        have hx1 : 0 ≤ x := by omega
        clear hx0
        by_cases hz : width12 x = 0
        · have HE := Lib.hid (show fitB W m = false from fitB_take_false hlt (by rw [HX.out, HW1.out, decide_eq_true hz]; simp))
          go_wp2_with fail
          refine (ref12Width_calls x w hxr).mono ?_
          rw [hz]
          rintro e w' ⟨rfl, rfl⟩
          go_wp2_with fail
          go_ret
          exact ⟨by rw [HE.out]; rfl, rfl⟩
        · have HL := Lib.hid (width12_le x)
          have HZ := Lib.hid hz
          clear hz
          by_cases hw : width12 x ≤ W
          · have HE := Lib.hid (show fit1 W x = true by rw [HW1.out, decide_eq_true hx1, decide_eq_false HZ.out, decide_eq_true hw]; rfl)
            have hzz := HZ.out
            generalize hy : width12 x = y at *
            have hzb : ((y : Int) == 0) = false := by simpa using hzz
            have hdw : decide ((W : Int) < (y : Int)) = false := decide_eq_false (by omega)
            go_wp2_with fail
            refine (ref12Width_calls x w hxr).mono ?_
            rw [hy]
            rintro e w' ⟨rfl, rfl⟩
            go_wp2_with fail
            refine (ref12Width_calls x w hxr).mono ?_
            rw [hy]
            rintro e w' ⟨rfl, rfl⟩
            go_wp2_with fail
            go_roundw
            case rel => exact ⟨k + 1, by omega, by simp, Lib.hid (by rw [HT.out, HX.out, fitB_snoc, HF.out, HE.out]; rfl), trivial⟩
            case measure => simp [intOf]; omega
          · have HE := Lib.hid (show fitB W m = false from fitB_take_false hlt (by rw [HX.out, HW1.out, decide_eq_false hw]; simp))
            have hzz := HZ.out
            generalize hy : width12 x = y at *
            have hzb : ((y : Int) == 0) = false := by simpa using hzz
            have hw2 : W < y := by omega
            have hdw : decide ((W : Int) < (y : Int)) = true := decide_eq_true (by omega)
            clear hw
            go_wp2_with fail
            refine (ref12Width_calls x w hxr).mono ?_
            rw [hy]
            rintro e w' ⟨rfl, rfl⟩
            go_wp2_with fail
            refine (ref12Width_calls x w hxr).mono ?_
            rw [hy]
            rintro e w' ⟨rfl, rfl⟩
            go_wp2_with fail
            go_ret
            exact ⟨by rw [HE.out]; rfl, rfl⟩
    · have hke : k = m.length := by omega
      subst hke
      go_wp2_with fail
      go_ret
      refine ⟨?_, rfl⟩
      have := HF.out
      rw [List.take_length] at this
      rw [this]
      rfl
end Go.Proofs.Ytneliajeokajbaa
