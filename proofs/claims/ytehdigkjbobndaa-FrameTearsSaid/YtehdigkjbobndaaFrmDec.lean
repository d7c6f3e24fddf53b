/- The walk of frame's Decode, whole. -/
import Derived.Test.YtehdigkjbobndaaFrmD1
import Derived.Test.YtehdigkjbobndaaFrmD2
import Derived.Test.YtehdigkjbobndaaFrmD3
namespace Go.Proofs.Ytehdigkjbobndaa
open Go.RowKit

theorem frmDecode_calls (A : Option Addr) (c : Nat) (l : List Int) (w : World) (h1 : Rd w .u8 A c l) :
    Calls Try.prog 43 #[.slice A l.length c] w (DecPost w (frmDec l)) := by
  by_cases hl : l.length = 256
  · have hd : frmDec l = frmDec l := rfl
    conv at hd => rhs; unfold frmDec
    rw [if_neg (show ¬ l.length ≠ 256 from fun h => h hl)] at hd
    rw [hl]
    by_cases hh : holds l = false
    · rw [if_pos hh] at hd
      rw [hd]
      exact frmDecode_sum A c l w h1 (Lib.hid hl) hh
    · rw [if_neg hh] at hd
      have hh : holds l = true := by simpa using hh
      by_cases h8 : 238 < num2 (l.drop 8)
      · rw [if_pos h8] at hd
        rw [hd]
        exact frmDecode_room A c l w h1 (Lib.hid hl) hh h8
      · rw [if_neg h8] at hd
        have h0 := (num2_range (l := l.drop 8) (by rw [List.length_drop]; omega) (fun x hx => h1.u8 x (List.mem_of_mem_drop hx))).1
        obtain ⟨m, hm⟩ := Int.eq_ofNat_of_zero_le h0
        rw [show (num2 (l.drop 8)).toNat = m by omega] at hd
        rw [hd]
        have hbl : ((l.drop 10).take m).length = m := by rw [List.length_take, List.length_drop]; omega
        by_cases hc : frmCheck (l.getD 1 0) (num4 (l.drop 2)) (num2 (l.drop 6)) ((l.drop 10).take m) = 0
        · by_cases he : frmEnc (l.getD 1 0) (num4 (l.drop 2)) (num2 (l.drop 6)) ((l.drop 10).take m) = l
          · rw [if_pos ⟨hc, he⟩]
            exact frmDecode_ok A c l w h1 (Lib.hid hl) hh _ _ _ _ m (by omega) (Lib.hid rfl) (Lib.hid rfl) (Lib.hid rfl) (Lib.hid hm) (Lib.hid rfl) (Lib.hid hbl) hc (Lib.hid he)
          · rw [if_neg (fun h => he h.2)]
            exact frmDecode_ne A c l w h1 (Lib.hid hl) hh _ _ _ _ m (by omega) (Lib.hid rfl) (Lib.hid rfl) (Lib.hid rfl) (Lib.hid hm) (Lib.hid rfl) (Lib.hid hbl) hc he
        · rw [if_neg (fun h => hc h.1)]
          exact frmDecode_form A c l w h1 (Lib.hid hl) hh _ _ _ _ m (by omega) (Lib.hid rfl) (Lib.hid rfl) (Lib.hid rfl) (Lib.hid hm) (Lib.hid rfl) (Lib.hid hbl) hc
  · have hd : frmDec l = (0, 0, 0, [], 2) := by unfold frmDec; rw [if_pos hl]
    rw [hd]
    exact frmDecode_len A c l w h1 hl
end Go.Proofs.Ytehdigkjbobndaa
