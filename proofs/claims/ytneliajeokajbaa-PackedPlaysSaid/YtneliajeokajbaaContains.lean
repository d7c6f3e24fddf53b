/- slices.ContainsFunc on whole numbers, a closure that captures one cell, or none. -/
import Derived.Test.YtneliajeokajbaaProg
import Derived.Test.YtneliajeokajbaaBase
namespace Go.Proofs.Ytneliajeokajbaa
open Go.RowKit
set_option maxRecDepth 100000

/-- The first place of which a predicate holds. -/
def firstOf (p : Int → Bool) (l : List Int) : Int := if l.any p then (l.findIdx p : Int) else -1
structure IdxPost (p : Int → Bool) (l : List Int) (w : World) (e : Ending) (w' : World) : Prop where mk ::
  same : w = w'
  out : ∃ r : Int, e = .returned (.int .i64 r) ∧ (0 ≤ r ↔ l.any p = true) ∧ r ≤ 9223372036854775807
set_option maxHeartbeats 1000000 in
theorem indexFunc_calls' (p : Int → Bool) (F : FuncId) (caps : Array Value) (A : Option Addr) (c c0 : Nat) (l : List Int) (w : World) (h1 : Rd w .i64 A c l)
    (hcf : ∀ args w, (callFunc F args).run Try.prog w = .ok (.enter F args) w) (hf : ∀ n wr, Up w wr → InK .i64 n → Calls Try.prog F (#[.int .i64 n] ++ caps) wr fun e w' => e = .returned (.bool (p n)) ∧ wr = w') :
    Calls Try.prog 110 #[.slice A l.length c0, .func (.func F) #[] caps] w (IdxPost p l w) := by
  have hlen := h1.len
  have HF := Lib.hid hf
  clear hf
  go_enter Try.func110, Try.ntmps110
  go_wp2_with fail
  go_loop [5, 8] (fun _ i => ∃ k : Nat, k ≤ l.length ∧ i = .int .i64 k ∧ Hid ((l.take k).any p = false)) (fun _ i => l.length - (intOf i).toNat)
  case atStart => exact ⟨0, by omega, rfl, Lib.hid rfl⟩
  case round =>
    obtain ⟨k, hk, rfl, HP⟩ := hrel
    by_cases hlt : k < l.length
    · obtain ⟨ad, x, rfl, hc, HX, hx⟩ := h1.get k hlt
      have HT := Lib.hid (show (l.take (k + 1)).any p = p x by rw [take_succ_getD l k 0 hlt, HX.out, List.any_append, HP.out]; simp)
      have hf1 := Lib.hid (HF.out x w (Up.refl _) hx)
      go_wp2_with fail
      refine (hf1.out).mono ?_
      rintro e w' ⟨rfl, rfl⟩
      cases hpx : p x with
      | true =>
        have HA : Hid (l.any p = true) := Lib.hid (by rw [← List.take_append_drop (k + 1) l, List.any_append, HT.out, hpx]; rfl)
        clear hpx
        go_wp2_with fail
        go_ret
        exact ⟨rfl, k, rfl, ⟨fun _ => HA.out, fun _ => by omega⟩, by omega⟩
      | false =>
        have HN := Lib.hid (HT.out.trans hpx)
        clear hpx
        go_wp2_with fail
        go_round
        case rel => exact ⟨k + 1, by omega, by simp, HN⟩
        case measure => simp [intOf]; omega
    · have hke : k = l.length := by omega
      subst hke
      rw [List.take_length] at HP
      go_wp2_with fail
      go_ret
      exact ⟨rfl, -1, rfl, ⟨fun h => absurd h (by omega), fun h => by rw [HP.out] at h; cases h⟩, by omega⟩
theorem containsFunc_calls' (p : Int → Bool) (F : FuncId) (caps : Array Value) (A : Option Addr) (c c0 : Nat) (l : List Int) (w : World) (h1 : Rd w .i64 A c l)
    (hcf : ∀ args w, (callFunc F args).run Try.prog w = .ok (.enter F args) w) (hf : ∀ n wr, Up w wr → InK .i64 n → Calls Try.prog F (#[.int .i64 n] ++ caps) wr fun e w' => e = .returned (.bool (p n)) ∧ wr = w') :
    Calls Try.prog 99 #[.slice A l.length c0, .func (.func F) #[] caps] w fun e w' => e = .returned (.bool (l.any p)) ∧ w = w' := by
  go_enter Try.func99, Try.ntmps99
  go_wp2_with fail
  refine (indexFunc_calls' p F caps A c c0 l w h1 hcf hf).mono ?_
  rintro e w' ⟨rfl, r, rfl, hr, hr2⟩
  have HR := Lib.hid hr
  clear hr
  by_cases h0 : 0 ≤ r
  · have HE := Lib.hid (HR.out.1 h0)
    go_wp2_with fail
    go_ret
    exact ⟨by rw [HE.out]; rfl, rfl⟩
  · have HE : Hid (l.any p = false) := Lib.hid (by
      cases hq : l.any p with
      | true => exact absurd (HR.out.2 hq) h0
      | false => rfl)
    have hd0 : decide (0 ≤ r) = false := decide_eq_false h0
    have hr0 : r < 0 := by omega
    clear h0
    go_wp2_with fail
    go_ret
    exact ⟨by rw [HE.out]; rfl, rfl⟩
theorem containsFunc_calls (p : Int → Bool) (F : FuncId) (caps : Array Value) (A : Option Addr) (c : Nat) (l : List Int) (w : World) (h1 : Rd w .i64 A c l)
    (hcf : ∀ args w, (callFunc F args).run Try.prog w = .ok (.enter F args) w) (hf : ∀ n wr, Up w wr → InK .i64 n → Calls Try.prog F (#[.int .i64 n] ++ caps) wr fun e w' => e = .returned (.bool (p n)) ∧ wr = w') :
    Calls Try.prog 99 #[.slice A l.length c, .func (.func F) #[] caps] w fun e w' => e = .returned (.bool (l.any p)) ∧ w = w' := containsFunc_calls' p F caps A c c l w h1 hcf hf
end Go.Proofs.Ytneliajeokajbaa
