/- Layer 14: New. -/
import Derived.Test.YtneliajeokajbaaAlphaTab
import Derived.Test.YtneliajeokajbaaAlphaRef
import Derived.Test.YtneliajeokajbaaArr
namespace Go.Proofs.Ytneliajeokajbaa
open Go.RowKit
set_option maxRecDepth 100000

/-- How often each symbol is. -/
def cnts (t : List Int) : List Int := (List.range 258).map fun (s : Nat) => (cnt t s : Int)
theorem cnts_len (t : List Int) : (cnts t).length = 258 := by simp [cnts]
theorem cnts_get (t : List Int) (s : Nat) (h : s < 258) : (cnts t).getD s 0 = cnt t s := by
  simp [cnts, List.getD_eq_getElem?_getD, List.getElem?_map, List.getElem?_range h]
theorem cnts_snoc (t : List Int) (x : Nat) (_ : x < 258) : cnts (t ++ [(x : Int)]) = (cnts t).set x ((cnt t x : Int) + 1) := by
  refine eq_of_getD (by simp [cnts]) fun i hi => ?_
  rw [cnts_len] at hi
  rw [cnts_get _ i hi]
  by_cases h : x = i
  · subst h
    rw [getD_set_self _ _ _ _ (by rw [cnts_len]; exact hi), cnt_snoc]
    simp
  · rw [getD_set_other _ _ _ _ _ h, cnts_get _ i hi, cnt_snoc, if_neg (by omega)]
    simp
theorem cnts_nil : cnts [] = List.replicate 258 0 := by decide +kernel

/-- All symbols of a text are symbols. -/
def symsB (t : List Int) : Bool := t.all fun s => decide (0 ≤ s) && decide (s < 258)
def inB (n : Nat) (x : Int) : Bool := decide (0 ≤ x) && decide (x < (n : Int))
theorem inB_succ (n : Nat) (x : Int) (h : x ≠ (n : Int)) : inB (n + 1) x = inB n x := by
  unfold inB; rw [Bool.eq_iff_iff]; simp; omega
theorem cnt_filter (t : List Int) (n : Nat) : ((t.filter (inB (n + 1))).length : Int) = (t.filter (inB n)).length + cnt t n := by
  unfold cnt
  induction t with
  | nil => simp
  | cons y t ih =>
    rw [List.count_cons, List.filter_cons, List.filter_cons]
    by_cases hy : y = (n : Int)
    · subst hy
      have e1 : inB (n + 1) (n : Int) = true := by simp [inB]; omega
      have e2 : inB n (n : Int) = false := by simp [inB]
      rw [e1, e2, if_pos rfl, if_neg (by simp), List.length_cons]
      simp
      omega
    · have e2 : (y == (n : Int)) = false := by simpa using hy
      rw [inB_succ n y hy, e2]
      cases inB n y <;> simp <;> omega
theorem cnt_sum (t : List Int) (n : Nat) : (tcounts t n).sum ≤ t.length := by
  have key : ∀ n, (tcounts t n).sum = ((t.filter (inB n)).length : Int) := by
    intro n
    induction n with
    | zero =>
      have : t.filter (inB 0) = [] := by
        rw [List.filter_eq_nil_iff]; intro x _; simp [inB]
      rw [this]; rfl
    | succ n ih =>
      rw [tcounts_succ, List.sum_append, ih, cnt_filter]
      congr 1
      split
      · simp
      · simp; omega
  rw [key n]
  have := List.length_filter_le (inB n) t
  omega
theorem tcounts_pos (t : List Int) (n : Nat) : ∀ x ∈ tcounts t n, 0 ≤ x := by
  intro x hx
  obtain ⟨y, _, rfl⟩ := List.mem_map.1 hx
  omega

structure NewPost (w : World) (t : List Int) (en : Ending) (w' : World) : Prop where mk ::
  up : Up w w'
  out : (symsB t = true ∧ ∃ p, en = .returned (.tuple #[p, .int .i64 0]) ∧ Tab w' p (tsyms t 258) (tcounts t 258) (sums (tcounts t 258))) ∨ (symsB t = false ∧ en = .returned (.tuple #[.pointer none, .int .i64 10]))

theorem oftenZero : (Try.prog.info? 109).bind (·.zero) = some (.agg (cellsOf .i64 (List.replicate 258 0))) := by kernel_rfl

set_option maxHeartbeats 4000000 in
theorem alphaNew_calls (A : Option Addr) (c : Nat) (t : List Int) (w : World) (h1 : Rd w .i64 A c t) (hb : t.length ≤ 65536) :
    Calls Try.prog 29 #[.slice A t.length c] w (NewPost w t) := by
  go_enter Try.func29, Try.ntmps29
  go_wp2_with (refine wpl_alloc' oftenZero ?_; intro w0 hu0 hb0 hs0)
  have HS0 := Lib.hid hs0
  clear hs0
  go_loopw [6, 16] (fun _ i wr => ∃ k : Nat, k ≤ t.length ∧ i = .int .i64 k ∧ Hid (symsB (t.take k) = true) ∧ Blk wr w.heap.size 109 (cellsOf .i64 (cnts (t.take k))) ∧ Up w wr) (fun _ i _ => t.length - (intOf i).toNat)
  case atStart => exact ⟨0, by omega, rfl, Lib.hid rfl, by simpa [cnts_nil] using hb0, hu0⟩
  case round =>
    obtain ⟨k, hk, rfl, HSY, hb, hu⟩ := hrel
    by_cases hlt : k < t.length
    · obtain ⟨ad, x, rfl, hc, HX, hxr⟩ := h1.get k hlt
      have hc' := hu.cell hc
      have HT := Lib.hid (show t.take (k + 1) = t.take k ++ [x] by rw [take_succ_getD t k 0 hlt, HX.out])
      have HL := Lib.hid (show (t.take k).length ≤ k from List.length_take_le _ _)
      by_cases hx : 0 ≤ x ∧ x < 258
      · obtain ⟨n, rfl⟩ := Int.eq_ofNat_of_zero_le hx.1
        have hn : n < 258 := by omega
        have HN := Lib.hid (cnts_snoc (t.take k) n hn)
        have HSN := Lib.hid (show symsB (t.take (k + 1)) = true by rw [HT.out]; unfold symsB; rw [List.all_append, show (t.take k).all _ = true from HSY.out]; simp; omega)
        have hcl := cnt_le (t.take k) n
        have hg := (hb.cell n).trans (cellsOf_get _ _ n (by rw [cnts_len]; exact hn))
        rw [cnts_get _ n hn] at hg
        have hf := hb.frozen n
        have hl2 := HL.out
        generalize hm : cnt (t.take k) n = m at *
        clear hm hx
        go_wp2_with fail
        have hx4 : UpX (fun b => b = w.heap.size) wr (wr.setCell ⟨w.heap.size, n, none⟩ (.int .i64 ((m : Int) + 1))) := UpX.one _ _ _ _
        go_roundw
        case rel =>
          refine ⟨k + 1, by omega, by simp, HSN, ?_, hu.thenx hx4 fun i hi e => by omega⟩
          rw [HT.out, HN.out, ← cellsOf_set]
          exact hb.set n _
        case measure => simp [intOf]; omega
      · have HBF : Hid (symsB t = false) := Lib.hid (by
          rw [← List.take_append_drop (k + 1) t, HT.out]
          unfold symsB
          rw [List.all_append, List.all_append]
          have : ([x].all fun s => decide (0 ≤ s) && decide (s < 258)) = false := by
            simp
            omega
          rw [this]
          simp)
        by_cases hx0 : x < 0
        · clear hx
          go_wp2_with fail
          go_ret2
          exact ⟨hu, .inr ⟨HBF.out, rfl⟩⟩
        · have hx1 : ¬ x < 258 := by omega
          have hx2 : 258 ≤ x := by omega
          clear hx
          go_wp2_with fail
          go_ret2
          exact ⟨hu, .inr ⟨HBF.out, rfl⟩⟩
    · have hke : k = t.length := by omega
      subst hke
      rw [List.take_length] at HSY hb
      go_wp2_with (refine wpl_load_row w.heap.size 109 (cellsOf .i64 (cnts t)) _ rfl hb Try.underlying109 rfl (by rw [cellsOf_size, cnts_len]; kernel_rfl) ?_)
      go_loopw [7, 8, 9, 10, 33] (fun a b _ _ i wr => ∃ k : Nat, k ≤ 258 ∧ i = .int .i64 k ∧ Own wr w.heap.size 3 .i64 a (tsyms t k) ∧ Own wr w.heap.size 3 .i64 b (tcounts t k) ∧ (∀ g, a.ownBlock = some g → ¬ b.ownBlock = some g) ∧ Up w wr) (fun _ _ _ _ i _ => 258 - (intOf i).toNat)
      case atStart => exact ⟨0, by omega, rfl, Own.nil _ _ _ _, Own.nil _ _ _ _, (fun _ h => by simp [Value.ownBlock] at h), hu⟩
      case round =>
        obtain ⟨k, hk, rfl, ha, hb, hne, hu⟩ := hrel
        by_cases hlt : k < 258
        · have HL1 := Lib.hid (tsyms_len t k)
          have HL2 := Lib.hid (tcounts_len t k)
          have HS := Lib.hid (tsyms_succ t k)
          have HC := Lib.hid (tcounts_succ t k)
          have hcl := cnt_le t k
          have HNE := Lib.hid hne
          clear hne
          have hidx := fun w => run_index_agg (P := Try.prog) w (t := 109) (cellsOf .i64 (cnts t)) .i64 k _ Try.underlying109 (by kernel_rfl) hlt (cellsOf_get .i64 (cnts t) k (by rw [cnts_len]; exact hlt)) (by kernel_rfl)
          rw [cnts_get t k hlt] at hidx
          generalize hm : cnt t k = m at *
          clear hm
          by_cases h0 : 0 < m
          · have HS2 := Lib.hid (HS.out.trans (by rw [if_pos h0]))
            have HC2 := Lib.hid (HC.out.trans (by rw [if_pos h0]))
            clear HS HC
            have hla := ha.lt
            have hlb := hb.lt
            go_wp2_with (first
              | (refine wpl_push_int2 (t := 23) w.heap.size 3 .i64 8 Try.underlying23 infoInt _ (tsyms t k) (k : Int) rfl (InK.of_i64 (by omega) (by omega)) (fun _ => rfl) (fun _ => rfl) ha (by have := HL1.out; omega) (by decide) hu.size ?_
                 intro v1 w1 hv1 hu1 hn1
                 have hb1 := hb.upx hu1 fun g h1 h2 => HNE.out g h2 h1
                 have hU1 : Up w w1 := hu.thenx hu1 fun i hi e => by have := (hla i e).1; omega)
              | (refine wpl_push_int2 (t := 23) w.heap.size 3 .i64 8 Try.underlying23 infoInt _ (tcounts t k) (m : Int) rfl (InK.of_i64 (by omega) (by omega)) (fun _ => rfl) (fun _ => rfl) hb1 (by have := HL1.out; have := HL2.out; omega) (by decide) hU1.size ?_
                 intro v2 w2 hv2 hu2 hn2))
            go_roundw
            case rel =>
              have hne1 := hn1.apart HNE.out fun g h => (hlb g h).2
              have hl1 := hv1.lt
              refine ⟨k + 1, by omega, by simp, ?_, ?_, fun g h1 h2 => hn2.apart (fun g h1 h2 => hne1 g h2 h1) (fun g h => (hl1 g h).2) g h2 h1, hU1.thenx hu2 fun i hi e => by have := (hlb i e).1; omega⟩
              · rw [HS2.out]; exact hv1.upx hu2 fun g h1 h2 => hne1 g h1 h2
              · rw [HC2.out]; exact hv2
            case measure => simp [intOf]; omega
          · have HS2 := Lib.hid (HS.out.trans (by rw [if_neg h0, List.append_nil]))
            have HC2 := Lib.hid (HC.out.trans (by rw [if_neg h0, List.append_nil]))
            clear HS HC
            have hm0 : m = 0 := by omega
            subst hm0
            go_wp2_with fail
            go_roundw
            case rel => exact ⟨k + 1, by omega, by simp, by rw [HS2.out]; exact ha, by rw [HC2.out]; exact hb, HNE.out, hu⟩
            case measure => simp [intOf]; omega
        · have hke : k = 258 := by omega
          subst hke
          obtain ⟨A1, c1, rfl, hr1⟩ := ha.rd
          obtain ⟨A2, c2, rfl, hr2⟩ := hb.rd
          have HP := Lib.hid (tcounts_pos t 258)
          have HSU := Lib.hid (cnt_sum t 258)
          have HLE := Lib.hid (show (tcounts t 258).length ≤ 258 by rw [tcounts_len]; exact tsyms_len t 258)
          have HSY2 := HSY
          generalize hsy : tsyms t 258 = sy at *
          generalize hct : tcounts t 258 = ct at *
          have Hsy := Lib.hid hsy
          have Hct := Lib.hid hct
          clear hsy hct
          go_wp2_with fail
          refine (alphaMade_calls A1 A2 c1 c2 sy ct wr hr1 hr2 HP.out (by have := HSU.out; omega) (by have := HLE.out; omega)).mono ?_
          rintro e w3 ⟨p, rfl, hT, hu3⟩
          go_wp2_with fail
          go_ret2
          exact ⟨hu.trans hu3, .inl ⟨HSY2.out, p, rfl, by rw [Hsy.out, Hct.out]; exact hT⟩⟩
end Go.Proofs.Ytneliajeokajbaa
