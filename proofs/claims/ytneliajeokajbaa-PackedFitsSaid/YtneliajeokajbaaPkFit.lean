/- Layer 12: Fit, ref12.Fits. -/
import Derived.Test.YtneliajeokajbaaPkWid
namespace Go.Proofs.Ytneliajeokajbaa
open Go.RowKit
set_option maxRecDepth 100000

theorem snocInd {P : List Int → Prop} (h0 : P []) (h1 : ∀ l x, P l → P (l ++ [x])) (l : List Int) : P l := by
  have h : ∀ m : List Int, P m.reverse := fun m => by
    induction m with
    | nil => exact h0
    | cons x m ih => rw [List.reverse_cons]; exact h1 _ _ ih
  have := h l.reverse
  rwa [List.reverse_reverse] at this
/-- The width that must be. -/
def maxW (l : List Int) : Nat := l.foldl (fun m x => max m (width12 x)) 1
theorem maxW_snoc (l : List Int) (x : Int) : maxW (l ++ [x]) = max (maxW l) (width12 x) := by unfold maxW; rw [List.foldl_append]; rfl
theorem maxW_pos (l : List Int) : 1 ≤ maxW l := by
  refine snocInd (P := fun l => 1 ≤ maxW l) (by decide) (fun l x ih => ?_) l
  rw [maxW_snoc]; omega
theorem width12_le (x : Int) : width12 x ≤ 31 := by
  unfold width12
  split
  · rename_i h
    exact (wd_le x.toNat 31 (by omega) (by omega) (by omega)).2 (by omega)
  · omega
theorem maxW_le (l : List Int) : maxW l ≤ 31 := by
  refine snocInd (P := fun l => maxW l ≤ 31) (by decide) (fun l x ih => ?_) l
  rw [maxW_snoc]; have := width12_le x; omega
theorem maxW_mem {l : List Int} {x : Int} : x ∈ l → width12 x ≤ maxW l := by
  refine snocInd (P := fun l => x ∈ l → width12 x ≤ maxW l) (fun h => absurd h (by simp)) (fun l y ih h => ?_) l
  rw [maxW_snoc]
  rcases List.mem_append.1 h with h1 | h1
  · have := ih h1; omega
  · rw [List.mem_singleton.1 h1]; omega
theorem fit1_width (k : Nat) (x : Int) (h1 : 1 ≤ k) (h2 : k ≤ 31) : fit1 k x = (decide (0 ≤ x) && !decide (width12 x = 0) && decide (width12 x ≤ k)) := by
  unfold fit1 width12
  by_cases h0 : 0 ≤ x
  · rw [decide_eq_true h0, Bool.true_and, Bool.true_and]
    obtain ⟨n, rfl⟩ := Int.eq_ofNat_of_zero_le h0
    have hp : ((2 : Int) ^ k) = ((2 ^ k : Nat) : Int) := by simp
    by_cases h31 : (n : Int) ≤ 2147483647
    · rw [if_pos ⟨h0, h31⟩]
      have h3 := wd_le n k h1 (by omega) (by omega)
      have h4 : wd n ≠ 0 := by unfold wd; omega
      rw [show ((n : Int).toNat) = n by omega, decide_eq_false h4, Bool.not_false, Bool.true_and]
      rw [Bool.eq_iff_iff, decide_eq_true_eq, decide_eq_true_eq, h3, hp]
      omega
    · rw [if_neg (fun h => h31 h.2)]
      have h5 : 2 ^ k ≤ 2 ^ 31 := Nat.pow_le_pow_right (by decide) h2
      rw [decide_eq_false (by rw [hp]; omega)]
      simp
  · rw [decide_eq_false h0]; simp
theorem fitB_maxW {l : List Int} (h : fitB 31 l = true) : fitB (maxW l) l = true := by
  unfold fitB at h ⊢
  rw [List.all_eq_true] at h ⊢
  intro x hx
  have h1 := h x hx
  rw [fit1_width 31 x (by omega) (by omega)] at h1
  rw [fit1_width _ x (maxW_pos l) (maxW_le l)]
  simp only [Bool.and_eq_true] at h1 ⊢
  exact ⟨h1.1, by simpa using maxW_mem hx⟩
/-- What Fit answers. -/
structure FitPk (w : World) (m : List Int) (en : Ending) (w' : World) : Prop where mk ::
  up : Up w w'
  out : (fitB 31 m = false ∧ en = .returned (.tuple #[.pointer none, .int .i64 10])) ∨
    (fitB 31 m = true ∧ (m.length ≤ 65536 → ∃ g ws, en = .returned (.tuple #[.pointer (some ⟨g, 0, none⟩), .int .i64 0]) ∧ w.heap.size ≤ g ∧ PArr w' g w.heap.size (maxW m) m.length ws ∧ PkOk (maxW m) m.length ws m))
set_option maxHeartbeats 1000000 in
theorem packedFit_calls (B : Option Addr) (d : Nat) (m : List Int) (w : World) (hm : Rd w .i64 B d m) (hl : m.length ≤ 65536) :
    Calls Try.prog 67 #[.slice B m.length d] w (FitPk w m) := by
  go_enter Try.func67, Try.ntmps67
  go_wp2_with fail
  refine (packedFits_calls B d m 31 w hm (by omega)).mono ?_
  rintro e w1 ⟨rfl, hu1⟩
  cases hf : fitB 31 m with
  | false =>
    have HF := Lib.hid hf
    clear hf
    go_wp2_with fail
    go_ret2
    exact ⟨hu1, .inl ⟨HF.out, rfl⟩⟩
  | true =>
    have HF := Lib.hid hf
    clear hf
    have hm1 := hm.up hu1
    go_wp2_with fail
    go_loopw [4, 6, 12] (fun o _ i wr => ∃ k v : Nat, k ≤ m.length ∧ i = .int .i64 k ∧ o = .int .i64 v ∧ Hid (v = maxW (m.take k)) ∧ v ≤ 31 ∧ w1 = wr) (fun _ _ i _ => m.length - (intOf i).toNat)
    case atStart => exact ⟨0, 1, by omega, rfl, rfl, Lib.hid rfl, by omega, rfl⟩
    case round =>
      obtain ⟨k, v, hk, rfl, rfl, HV, hv, rfl⟩ := hrel
      by_cases hlt : k < m.length
      · obtain ⟨ad, x, rfl, hcell, HX, hxr⟩ := hm1.get k hlt
        have HT := Lib.hid (take_succ_getD m k 0 hlt)
        have HW := Lib.hid (width12_le x)
        go_wp2_with fail
        refine (packedWidth_calls x w1 hxr).mono ?_
        rintro e w' ⟨rfl, rfl⟩
        go_wp2_with fail
        go_roundw
        case rel =>
          refine ⟨k + 1, max v (width12 x), by omega, by simp, congrArg (Value.int .i64) (by omega), Lib.hid ?_, by have := HW.out; omega, trivial⟩
          rw [HT.out, HX.out, maxW_snoc, HV.out]
        case measure => simp [intOf]; omega
      · have hke : k = m.length := by omega
        subst hke
        go_wp2_with fail
        refine (packedNew_calls v B d m w1 hm1).mono ?_
        have HV2 := Lib.hid (show v = maxW m by have := HV.out; rwa [List.take_length] at this)
        have HP := Lib.hid (maxW_pos m)
        rintro e w2 ⟨hu2, hp⟩
        have hU := hu1.trans hu2
        rcases hp with ⟨h, _⟩ | ⟨_, h, _⟩ | ⟨_, _, h, _⟩ | ⟨_, _, _, g, ws, rfl, hg, hpa, hok⟩
        · exfalso
          unfold rightW at h
          rw [decide_eq_true (by have := HP.out; have := HV2.out; omega), decide_eq_true (by omega)] at h
          cases h
        · have h9 := fitB_maxW HF.out
          rw [← HV2.out] at h9
          exact absurd (h9.symm.trans h) (by decide)
        · omega
        · have hpa : PArr w2 g w1.heap.size v m.length ws := hpa
          have hok : PkOk v m.length ws m := hok
          go_wp2_with fail
          go_ret2
          obtain ⟨A, c, h1, h2⟩ := hpa
          have hs := hu1.size
          refine ⟨hU, .inr ⟨HF.out, fun _ => ⟨g, ws, rfl, by omega, ?_, ?_⟩⟩⟩
          · rw [← HV2.out]; exact ⟨A, c, h1, h2.mono hs⟩
          · rw [← HV2.out]; exact hok
end Go.Proofs.Ytneliajeokajbaa
