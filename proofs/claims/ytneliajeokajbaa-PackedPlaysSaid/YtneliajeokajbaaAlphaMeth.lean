/- Layer 14: the table's methods. -/
import Derived.Test.YtneliajeokajbaaAlphaTab
import Derived.Test.YtneliajeokajbaaBin
namespace Go.Proofs.Ytneliajeokajbaa
open Go.RowKit
set_option maxRecDepth 100000

theorem sums_last (l : List Int) : (sums l).getD l.length 0 = l.sum := by rw [sums_get l _ (Nat.le_refl _), List.take_length]

set_option maxHeartbeats 400000 in
theorem alphaLen_calls {p : Value} {sy ct be : List Int} (w : World) (h : Tab w p sy ct be) (hl : sy.length < be.length) :
    Calls Try.prog 32 #[p] w fun e w' => e = .returned (.int .i64 (be.getD sy.length 0)) ∧ Qt w w' := by
  obtain ⟨g, A1, c1, A2, c2, A3, c3, rfl, hb, h1, h2, h3⟩ := h.out
  have g0 : w.cell? ⟨g, 0, none⟩ = some (.slice A1 sy.length c1) := hb.cell 0
  have g2 : w.cell? ⟨g, 2, none⟩ = some (.slice A3 be.length c3) := hb.cell 2
  obtain ⟨ad, x, rfl, hc, HX, _⟩ := h3.get sy.length hl
  have hsl := h1.len
  go_enter Try.func32, Try.ntmps32
  go_wp2
  go_quiet (fail)
  go_wp2
  go_ret
  have hq := Qt.refl w
  exact ⟨by rw [HX.out]; rfl, (by first | exact ⟨⟨_, rfl⟩⟩ | exact Qt.drewN hq _ | exact hq)⟩
set_option maxHeartbeats 400000 in
theorem alphaSigma_calls {p : Value} {sy ct be : List Int} (w : World) (h : Tab w p sy ct be) :
    Calls Try.prog 31 #[p] w fun e w' => e = .returned (.int .i64 sy.length) ∧ w = w' := by
  obtain ⟨g, A1, c1, A2, c2, A3, c3, rfl, hb, h1, h2, h3⟩ := h.out
  have g0 : w.cell? ⟨g, 0, none⟩ = some (.slice A1 sy.length c1) := hb.cell 0
  go_enter Try.func31, Try.ntmps31
  go_wp2
  go_ret
  exact ⟨rfl, rfl⟩
set_option maxHeartbeats 400000 in
theorem alphaSymbol_calls {p : Value} {sy ct be : List Int} (n : Int) (w : World) (h : Tab w p sy ct be) :
    Calls Try.prog 34 #[p, .int .i64 n] w fun e w' => e = .returned (if 0 ≤ n ∧ n < sy.length then .tuple #[.int .i64 (sy.getD n.toNat 0), .int .i64 0] else .tuple #[.int .i64 0, .int .i64 7]) ∧ w = w' := by
  obtain ⟨g, A1, c1, A2, c2, A3, c3, rfl, hb, h1, h2, h3⟩ := h.out
  have g0 : w.cell? ⟨g, 0, none⟩ = some (.slice A1 sy.length c1) := hb.cell 0
  have hsl := h1.len
  by_cases hn : 0 ≤ n ∧ n < sy.length
  · rw [if_pos hn]
    obtain ⟨m, rfl⟩ := Int.eq_ofNat_of_zero_le hn.1
    have hm : m < sy.length := by omega
    obtain ⟨ad, x, rfl, hc, HX, _⟩ := h1.get m hm
    rw [show ((m : Int)).toNat = m from rfl, HX.out]
    clear hn
    go_enter Try.func34, Try.ntmps34
    go_wp2
    go_ret2
    exact ⟨rfl, rfl⟩
  · rw [if_neg hn]
    by_cases h0 : n < 0
    · clear hn
      go_enter Try.func34, Try.ntmps34
      go_wp2
      go_ret2
      exact ⟨rfl, rfl⟩
    · have h4 : ¬ n < sy.length := by omega
      have h5 : (sy.length : Int) ≤ n := by omega
      clear hn
      go_enter Try.func34, Try.ntmps34
      go_wp2
      go_ret2
      exact ⟨rfl, rfl⟩
set_option maxHeartbeats 400000 in
theorem alphaC_calls {p : Value} {sy ct be : List Int} (n : Int) (w : World) (h : Tab w p sy ct be) (hl : sy.length < be.length) :
    Calls Try.prog 33 #[p, .int .i64 n] w fun e w' => e = .returned (if 0 ≤ n ∧ n ≤ sy.length then .tuple #[.int .i64 (be.getD n.toNat 0), .int .i64 0] else .tuple #[.int .i64 0, .int .i64 10]) ∧ w = w' := by
  obtain ⟨g, A1, c1, A2, c2, A3, c3, rfl, hb, h1, h2, h3⟩ := h.out
  have g0 : w.cell? ⟨g, 0, none⟩ = some (.slice A1 sy.length c1) := hb.cell 0
  have g2 : w.cell? ⟨g, 2, none⟩ = some (.slice A3 be.length c3) := hb.cell 2
  have hsl := h1.len
  by_cases hn : 0 ≤ n ∧ n ≤ sy.length
  · rw [if_pos hn]
    obtain ⟨m, rfl⟩ := Int.eq_ofNat_of_zero_le hn.1
    have hm : m < be.length := by omega
    have hm2 : m ≤ sy.length := by omega
    obtain ⟨ad, x, rfl, hc, HX, _⟩ := h3.get m hm
    rw [show ((m : Int)).toNat = m from rfl, HX.out]
    clear hn
    go_enter Try.func33, Try.ntmps33
    go_wp2
    go_ret2
    exact ⟨rfl, rfl⟩
  · rw [if_neg hn]
    by_cases h0 : n < 0
    · clear hn
      go_enter Try.func33, Try.ntmps33
      go_wp2
      go_ret2
      exact ⟨rfl, rfl⟩
    · have h4 : ¬ n ≤ sy.length := by omega
      have h5 : (sy.length : Int) < n := by omega
      clear hn
      go_enter Try.func33, Try.ntmps33
      go_wp2
      go_ret2
      exact ⟨rfl, rfl⟩
set_option maxHeartbeats 400000 in
theorem alphaCount_calls {p : Value} {sy ct be : List Int} (n : Int) (w : World) (h : Tab w p sy ct be) (hl : ct.length = sy.length) :
    Calls Try.prog 36 #[p, .int .i64 n] w fun e w' => e = .returned (.int .i64 (if 0 ≤ n ∧ n < sy.length then ct.getD n.toNat 0 else 0)) ∧ w = w' := by
  have HL := Lib.hid hl
  clear hl
  obtain ⟨g, A1, c1, A2, c2, A3, c3, rfl, hb, h1, h2, h3⟩ := h.out
  have g0 : w.cell? ⟨g, 0, none⟩ = some (.slice A1 sy.length c1) := hb.cell 0
  have g1 : w.cell? ⟨g, 1, none⟩ = some (.slice A2 ct.length c2) := hb.cell 1
  have hsl := h1.len
  by_cases hn : 0 ≤ n ∧ n < sy.length
  · rw [if_pos hn]
    obtain ⟨m, rfl⟩ := Int.eq_ofNat_of_zero_le hn.1
    have hm : m < ct.length := by rw [HL.out]; omega
    have hm2 : m < sy.length := by omega
    obtain ⟨ad, x, rfl, hc, HX, _⟩ := h2.get m hm
    rw [show ((m : Int)).toNat = m from rfl, HX.out]
    clear hn
    go_enter Try.func36, Try.ntmps36
    go_wp2
    go_ret
    exact ⟨rfl, rfl⟩
  · rw [if_neg hn]
    by_cases h0 : n < 0
    · clear hn
      go_enter Try.func36, Try.ntmps36
      go_wp2
      go_ret
      exact ⟨rfl, rfl⟩
    · have h4 : ¬ n < sy.length := by omega
      have h5 : (sy.length : Int) ≤ n := by omega
      clear hn
      go_enter Try.func36, Try.ntmps36
      go_wp2
      go_ret
      exact ⟨rfl, rfl⟩

/-- A symbol's code. -/
structure CodePost (w : World) (sy : List Int) (x : Int) (en : Ending) (w' : World) : Prop where mk ::
  same : w = w'
  out : (∃ i : Nat, i < sy.length ∧ sy.getD i 0 = x ∧ en = .returned (.tuple #[.int .i64 i, .int .i64 0])) ∨ (¬ x ∈ sy ∧ en = .returned (.tuple #[.int .i64 0, .int .i64 7]))
theorem mem_getD (l : List Int) (x : Int) (h : x ∈ l) : ∃ a, a < l.length ∧ l.getD a 0 = x := by
  obtain ⟨a, ha, rfl⟩ := List.mem_iff_getElem.1 h
  exact ⟨a, ha, by simp [List.getD_eq_getElem?_getD, List.getElem?_eq_getElem ha]⟩
set_option maxHeartbeats 400000 in
theorem alphaCode_calls {p : Value} {sy ct be : List Int} (x : Int) (w : World) (h : Tab w p sy ct be) (hs : Srt sy) (hle : sy.length ≤ 65536) :
    Calls Try.prog 35 #[p, .int .i64 x] w (CodePost w sy x) := by
  have HS := Lib.hid hs
  clear hs
  obtain ⟨g, A1, c1, A2, c2, A3, c3, rfl, hb, h1, h2, h3⟩ := h.out
  have g0 : w.cell? ⟨g, 0, none⟩ = some (.slice A1 sy.length c1) := hb.cell 0
  go_enter Try.func35, Try.ntmps35
  go_wp2_with fail
  refine (binSearch_calls A1 c1 sy x w h1 HS.out (by omega)).mono ?_
  rintro e w' hp
  obtain ⟨rfl, i, hi, H1, H2, rfl⟩ := hp
  have H1' := Lib.hid H1
  have H2' := Lib.hid H2
  clear H1 H2
  by_cases hf : i < sy.length ∧ sy.getD i 0 = x
  · have HF := Lib.hid hf
    have hd := decide_eq_true hf
    clear hf
    rw [hd]
    go_wp2_with fail
    go_ret2
    exact ⟨rfl, .inl ⟨i, HF.out.1, HF.out.2, rfl⟩⟩
  · have HF : Hid (¬ x ∈ sy) := Lib.hid (by
      intro hm
      obtain ⟨a, ha, hax⟩ := mem_getD sy x hm
      rcases Nat.lt_or_ge a i with h | h
      · have := H1'.out a h; omega
      · have h4 := H2'.out i (Nat.le_refl _) (by omega)
        rcases Nat.lt_or_eq_of_le h with h5 | h5
        · have := HS.out i a h5 ha
          exact hf ⟨by omega, by omega⟩
        · subst h5
          exact hf ⟨ha, hax⟩)
    have hd := decide_eq_false hf
    clear hf
    rw [hd]
    go_wp2_with fail
    go_ret2
    exact ⟨rfl, .inr ⟨HF.out, rfl⟩⟩
end Go.Proofs.Ytneliajeokajbaa
