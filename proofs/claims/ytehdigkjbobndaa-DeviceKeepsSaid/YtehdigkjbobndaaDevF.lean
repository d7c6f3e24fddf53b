/- Layer 3: Full, the chapter's example. -/
import Derived.Test.YtehdigkjbobndaaDevZ
import Derived.Test.YtehdigkjbobndaaCrcRef
namespace Go.Proofs.Ytehdigkjbobndaa
open Go.RowKit
set_option maxRecDepth 100000

/-- Bytes filled up to a page, or cut: so many are laid. -/
def fullK (l : List Int) (k : Nat) : List Int := l.take k ++ List.replicate (256 - k) 0
def full (l : List Int) : List Int := fullK l (min l.length 256)
theorem fullK_len (l : List Int) {k : Nat} (h1 : k ≤ l.length) (h2 : k ≤ 256) : (fullK l k).length = 256 := by
  unfold fullK
  rw [List.length_append, List.length_take, List.length_replicate]
  omega
theorem full_len (l : List Int) : (full l).length = 256 := fullK_len l (Nat.min_le_left _ _) (Nat.min_le_right _ _)
theorem fullK_set (l : List Int) {k : Nat} (h1 : k < l.length) (h2 : k < 256) : (fullK l k).set k (l.getD k 0) = fullK l (k + 1) := by
  unfold fullK
  rw [List.set_append_right _ _ (by rw [List.length_take]; omega), List.length_take, show k - min k l.length = 0 by omega, show 256 - k = (256 - (k + 1)) + 1 by omega, List.replicate_succ, List.set_cons_zero, take_succ_getD l k 0 h1]
  simp
set_option maxHeartbeats 1000000 in
theorem law03Full_calls (A : Option Addr) (c : Nat) (l : List Int) (w : World) (h : Rd w .u8 A c l) : Calls Try.prog 20 #[.slice A l.length c] w (RetOwn w 5 .u8 (full l)) := by
  have hmx := h.mx
  go_enter Try.func20, Try.ntmps20
  go_wp2_with (refine wpl_make w.heap.size 5 .u8 1 Try.underlying22 infoU8 256 rfl rfl (by decide) (by decide) (Nat.le_refl _) ?_; intro w1 ho1 hu1 hs1)
  go_loopw [4] (fun i wr => ∃ k : Nat, k ≤ l.length ∧ k ≤ 256 ∧ i = .int .i64 k ∧ Own wr w.heap.size 5 .u8 (.slice (some ⟨w.heap.size, 0, none⟩) 256 256) (fullK l k) ∧ Up w wr) (fun i _ => l.length - (intOf i).toNat)
  case atStart => exact ⟨0, by omega, by omega, rfl, by simpa [fullK] using ho1, hu1⟩
  case round =>
    clear ho1
    obtain ⟨k, hk1, hk2, rfl, ho, hu⟩ := hrel
    by_cases h1 : k < l.length
    · by_cases h2 : k < 256
      · obtain ⟨ad, x, rfl, hc, hg, hx⟩ := h.get k h1
        replace hc := hu.cell hc
        obtain ⟨g, c2, e, hb, hc2, hf2, hst⟩ := ho.store k (by rw [fullK_len l hk1 hk2]; exact h2)
        injection e with e1 _ e3
        injection e1 with e1
        injection e1 with e1 _ _
        subst e1 e3
        have HS := Lib.hid (fullK_set l h1 h2)
        rw [hg.out] at HS
        have HO := Lib.hid (hst x hx)
        clear hst ho hg
        go_wp2_with fail
        go_roundw
        case rel => exact ⟨k + 1, by omega, by omega, by simp, by rw [← HS.out]; exact HO.out, hu.setCell (by simp) _⟩
        case measure => simp [intOf]; omega
      · have hd : decide ((k : Int) < 256) = false := decide_eq_false (by omega)
        have HE := Lib.hid (show full l = fullK l k by unfold full; congr 1; omega)
        go_wp2_with fail
        go_ret
        exact RetOwn.of (by rw [HE.out]; exact ho) hu
    · have hd : decide ((k : Int) < (l.length : Int)) = false := decide_eq_false (by omega)
      have HE := Lib.hid (show full l = fullK l k by unfold full; congr 1; omega)
      go_wp2_with fail
      go_ret
      exact RetOwn.of (by rw [HE.out]; exact ho) hu
end Go.Proofs.Ytehdigkjbobndaa
