/- Layer 14: Codes and Symbols. -/
import Derived.Test.YtneliajeokajbaaAlphaMeth
namespace Go.Proofs.Ytneliajeokajbaa
open Go.RowKit
set_option maxRecDepth 100000

structure OnePost (R : Int → Int → Prop) (D : Int → Prop) (w : World) (n : Int) (en : Ending) (w' : World) : Prop where mk ::
  up : Up w w'
  out : (∃ m, InK .i64 m ∧ R n m ∧ en = .returned (.tuple #[.int .i64 m, .int .i64 0])) ∨ (¬ D n ∧ ∃ m, en = .returned (.tuple #[.int .i64 m, .int .i64 7]))
structure MapPost (R : Int → Int → Prop) (D : Int → Prop) (w : World) (l : List Int) (en : Ending) (w' : World) : Prop where mk ::
  up : Up w w'
  out : (∃ v ms, en = .returned (.tuple #[v, .int .i64 0]) ∧ Own w' w.heap.size 3 .i64 v ms ∧ ms.length = l.length ∧ ∀ i, i < l.length → R (l.getD i 0) (ms.getD i 0)) ∨ (¬ (∀ x ∈ l, D x) ∧ en = .returned (.tuple #[.slice none 0 0, .int .i64 7]))

set_option maxHeartbeats 1000000 in
theorem alphaMapped_calls (R : Int → Int → Prop) (D : Int → Prop) (F : FuncId) (cap : Value) (A : Option Addr) (c : Nat) (l : List Int) (w : World) (h1 : Rd w .i64 A c l) (hl : l.length ≤ 65536)
    (hcf : ∀ args w, (callFunc F args).run Try.prog w = .ok (.enter F args) w) (hf : ∀ n wr, Up w wr → Calls Try.prog F #[.int .i64 n, cap] wr (OnePost R D wr n)) :
    Calls Try.prog 80 #[.slice A l.length c, .func (.func F) #[] #[cap]] w (MapPost R D w l) := by
  have HF := Lib.hid hf
  clear hf
  go_enter Try.func80, Try.ntmps80
  go_wp2_with fail
  go_loopw [6, 8, 9, 10, 13] (fun o _ _ _ i wr => ∃ (k : Nat) (ms : List Int), k ≤ l.length ∧ i = .int .i64 k ∧ Own wr w.heap.size 3 .i64 o ms ∧ Hid (ms.length = k ∧ ∀ i, i < k → R (l.getD i 0) (ms.getD i 0)) ∧ Up w wr) (fun _ _ _ _ i _ => l.length - (intOf i).toNat)
  case atStart => exact ⟨0, [], by omega, rfl, Own.nil _ _ _ _, Lib.hid ⟨rfl, fun i h => absurd h (by omega)⟩, Up.refl _⟩
  case round =>
    obtain ⟨k, ms, hk, rfl, ho, HM, hu⟩ := hrel
    by_cases hlt : k < l.length
    · obtain ⟨ad, x, rfl, hc, HX, _⟩ := h1.get k hlt
      have hc' := hu.cell hc
      go_wp2_with fail
      refine (HF.out x wr hu).mono ?_
      rintro e w1 ⟨hu1, hp⟩
      have hu2 := hu.trans hu1
      rcases hp with ⟨m, hm, hR, rfl⟩ | ⟨hD, m, rfl⟩
      · have HR := Lib.hid hR
        clear hR
        have hml := HM.out.1
        go_wp2_with (refine wpl_push_int (t := 23) w.heap.size 3 .i64 8 Try.underlying23 infoInt _ ms m rfl hm (fun _ => rfl) (fun _ => rfl) (ho.up hu1) (by omega) (by decide) hu2.size ?_; intro v1 w2 hv1 hu3)
        have hlo := ho.lt
        go_roundw
        case rel =>
          refine ⟨k + 1, ms ++ [m], by omega, by simp, hv1, Lib.hid ⟨by simp [HM.out.1], fun i hi => ?_⟩, hu2.thenx hu3 fun i hi e => by have := (hlo i e).1; omega⟩
          rcases Nat.lt_or_ge i k with h | h
          · have e : (ms ++ [m]).getD i 0 = ms.getD i 0 := by
              simp [List.getD_eq_getElem?_getD, List.getElem?_append_left (show i < ms.length by rw [HM.out.1]; exact h)]
            rw [e]
            exact HM.out.2 i h
          · have e : i = k := by omega
            subst e
            have e : (ms ++ [m]).getD i 0 = m := by
              simp [List.getD_eq_getElem?_getD, ← HM.out.1]
            rw [e, HX.out]
            exact HR.out
        case measure => simp [intOf]; omega
      · have HD : Hid (¬ ∀ y ∈ l, D y) := Lib.hid fun h => hD (by
          have := h (l.getD k 0) (by rw [List.getD_eq_getElem?_getD, List.getElem?_eq_getElem hlt]; exact List.getElem_mem hlt)
          rwa [HX.out] at this)
        clear hD
        go_wp2_with fail
        go_ret2
        exact ⟨hu2, .inr ⟨HD.out, rfl⟩⟩
    · have hke : k = l.length := by omega
      subst hke
      go_wp2_with fail
      go_ret2
      exact ⟨hu, .inl ⟨_, ms, rfl, ho, HM.out.1, HM.out.2⟩⟩

set_option maxHeartbeats 400000 in
theorem alphaCodes_calls {p : Value} {sy ct be : List Int} (A : Option Addr) (c : Nat) (l : List Int) (w : World) (h : Tab w p sy ct be) (hs : Srt sy) (hle : sy.length ≤ 65536) (h1 : Rd w .i64 A c l) (hl : l.length ≤ 65536) :
    Calls Try.prog 38 #[p, .slice A l.length c] w (MapPost (fun n m => 0 ≤ m ∧ m < sy.length ∧ sy.getD m.toNat 0 = n) (fun n => n ∈ sy) w l) := by
  have HS := Lib.hid hs
  clear hs
  obtain ⟨g, hg⟩ : ∃ g, p = .pointer (some ⟨g, 0, none⟩) := by
    obtain ⟨g, _, _, _, _, _, _, e, _⟩ := h.out
    exact ⟨g, e⟩
  subst hg
  go_enter Try.func38, Try.ntmps38
  go_wp2_with fail
  have hA : Up w (w.alloc (.cells #[.pointer (some ⟨g, 0, none⟩)] 49)) := (Up.refl _).alloc _
  have hc0 : (w.alloc (.cells #[.pointer (some ⟨g, 0, none⟩)] 49)).cell? ⟨w.heap.size, 0, none⟩ = some (.pointer (some ⟨g, 0, none⟩)) := (Blk.new w _ _).cell 0
  refine (alphaMapped_calls (fun n m => 0 ≤ m ∧ m < sy.length ∧ sy.getD m.toNat 0 = n) (fun n => n ∈ sy) _ _ A c l _ (h1.up hA) hl (fun args w => by kernel_rfl) ?_).mono ?_
  · intro n wr hur
    have hc1 := hur.cell hc0
    have hT := (h.up hA).up hur
    go_enter Try.func81, Try.ntmps81
    go_wp2_with fail
    refine (alphaCode_calls n wr hT HS.out hle).mono ?_
    rintro e w1 ⟨rfl, hp⟩
    rcases hp with ⟨i, hi, hx, rfl⟩ | ⟨hn, rfl⟩
    · have HX := Lib.hid hx
      clear hx
      go_wp2_with fail
      go_ret2
      exact ⟨Up.refl _, .inl ⟨i, InK.of_i64 (by omega) (by omega), ⟨by omega, by omega, HX.out⟩, rfl⟩⟩
    · go_wp2_with fail
      go_ret2
      exact ⟨Up.refl _, .inr ⟨hn, _, rfl⟩⟩
  · rintro e w1 ⟨hu1, hp⟩
    have hU := hA.trans hu1
    rcases hp with ⟨v, ms, rfl, hv, hm, hR⟩ | ⟨hD, rfl⟩
    · have HM := Lib.hid (And.intro hm hR)
      clear hm hR
      go_wp2_with fail
      go_ret2
      exact ⟨hU, .inl ⟨_, ms, rfl, hv.mono hA.size, HM.out.1, HM.out.2⟩⟩
    · have HD := Lib.hid hD
      clear hD
      go_wp2_with fail
      go_ret2
      exact ⟨hU, .inr ⟨HD.out, rfl⟩⟩

set_option maxHeartbeats 400000 in
theorem alphaSymbols_calls {p : Value} {sy ct be : List Int} (A : Option Addr) (c : Nat) (l : List Int) (w : World) (h : Tab w p sy ct be) (h1 : Rd w .i64 A c l) (hl : l.length ≤ 65536) :
    Calls Try.prog 39 #[p, .slice A l.length c] w (MapPost (fun n m => m = sy.getD n.toNat 0) (fun n => 0 ≤ n ∧ n < sy.length) w l) := by
  have hsy : ∀ m, m < sy.length → InK .i64 (sy.getD m 0) := by
    obtain ⟨g, A1, c1, A2, c2, A3, c3, rfl, hb, h1, h2, h3⟩ := h.out
    exact fun m hm => h1.range m hm
  have HSY := Lib.hid hsy
  clear hsy
  obtain ⟨g, hg⟩ : ∃ g, p = .pointer (some ⟨g, 0, none⟩) := by
    obtain ⟨g, _, _, _, _, _, _, e, _⟩ := h.out
    exact ⟨g, e⟩
  subst hg
  go_enter Try.func39, Try.ntmps39
  go_wp2_with fail
  have hA : Up w (w.alloc (.cells #[.pointer (some ⟨g, 0, none⟩)] 49)) := (Up.refl _).alloc _
  have hc0 : (w.alloc (.cells #[.pointer (some ⟨g, 0, none⟩)] 49)).cell? ⟨w.heap.size, 0, none⟩ = some (.pointer (some ⟨g, 0, none⟩)) := (Blk.new w _ _).cell 0
  refine (alphaMapped_calls (fun n m => m = sy.getD n.toNat 0) (fun n => 0 ≤ n ∧ n < sy.length) _ _ A c l _ (h1.up hA) hl (fun args w => by kernel_rfl) ?_).mono ?_
  · intro n wr hur
    have hc1 := hur.cell hc0
    have hT := (h.up hA).up hur
    by_cases hn : 0 ≤ n ∧ n < sy.length
    · have HN := Lib.hid hn
      clear hn
      go_enter Try.func82, Try.ntmps82
      go_wp2_with fail
      refine (alphaSymbol_calls n wr hT).mono ?_
      rw [if_pos HN.out]
      rintro e w1 ⟨rfl, rfl⟩
      go_wp2_with fail
      go_ret2
      exact ⟨Up.refl _, .inl ⟨_, HSY.out _ (by have := HN.out; omega), rfl, rfl⟩⟩
    · have HN := Lib.hid hn
      clear hn
      go_enter Try.func82, Try.ntmps82
      go_wp2_with fail
      refine (alphaSymbol_calls n wr hT).mono ?_
      rw [if_neg HN.out]
      rintro e w1 ⟨rfl, rfl⟩
      go_wp2_with fail
      go_ret2
      exact ⟨Up.refl _, .inr ⟨HN.out, _, rfl⟩⟩
  · rintro e w1 ⟨hu1, hp⟩
    have hU := hA.trans hu1
    rcases hp with ⟨v, ms, rfl, hv, hm, hR⟩ | ⟨hD, rfl⟩
    · have HM := Lib.hid (And.intro hm hR)
      clear hm hR
      go_wp2_with fail
      go_ret2
      exact ⟨hU, .inl ⟨_, ms, rfl, hv.mono hA.size, HM.out.1, HM.out.2⟩⟩
    · have HD := Lib.hid hD
      clear hD
      go_wp2_with fail
      go_ret2
      exact ⟨hU, .inr ⟨HD.out, rfl⟩⟩
end Go.Proofs.Ytneliajeokajbaa
