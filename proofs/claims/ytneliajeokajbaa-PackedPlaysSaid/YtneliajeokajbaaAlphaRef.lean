/- Layer 14: the document's Count and Table. -/
import Derived.Test.YtneliajeokajbaaAlpha1
import Derived.Test.YtneliajeokajbaaBase2
namespace Go.Proofs.Ytneliajeokajbaa
open Go.RowKit
set_option maxRecDepth 100000

def cnt (t : List Int) (s : Int) : Nat := t.count s
theorem cnt_snoc (t : List Int) (x s : Int) : cnt (t ++ [x]) s = cnt t s + if x = s then 1 else 0 := by
  unfold cnt
  rw [List.count_append, List.count_singleton]
  by_cases h : x = s <;> simp [h]
theorem cnt_le (t : List Int) (s : Int) : cnt t s ≤ t.length := List.count_le_length

set_option maxHeartbeats 1000000 in
theorem ref14Count_calls (A : Option Addr) (c : Nat) (l : List Int) (s : Int) (w : World) (h1 : Rd w .i64 A c l) :
    Calls Try.prog 37 #[.slice A l.length c, .int .i64 s] w fun e w' => e = .returned (.int .i64 (cnt l s)) ∧ w = w' := by
  have hlen := h1.len
  go_enter Try.func37, Try.ntmps37
  go_wp2_with fail
  go_loop [5, 6] (fun n i => ∃ k m : Nat, k ≤ l.length ∧ m ≤ k ∧ i = .int .i64 k ∧ n = .int .i64 m ∧ Hid (m = cnt (l.take k) s)) (fun _ i => l.length - (intOf i).toNat)
  case atStart => exact ⟨0, 0, by omega, by omega, rfl, rfl, Lib.hid (by simp [cnt])⟩
  case round =>
    obtain ⟨k, m, hk, hmk, rfl, rfl, HM⟩ := hrel
    by_cases hlt : k < l.length
    · obtain ⟨ad, x, rfl, hc, HX, _⟩ := h1.get k hlt
      have HT := Lib.hid (show cnt (l.take (k + 1)) s = m + if x = s then 1 else 0 by rw [take_succ_getD l k 0 hlt, HX.out, cnt_snoc, HM.out])
      by_cases hx : x = s
      · have HT2 := Lib.hid (show m + 1 = cnt (l.take (k + 1)) s by rw [HT.out, if_pos hx])
        have hxb : (x == s) = true := by simpa using hx
        clear HT hx
        go_wp2_with fail
        go_round
        case rel => exact ⟨k + 1, m + 1, by omega, by omega, by simp, by simp, HT2⟩
        case measure => simp [intOf]; omega
      · have HT2 := Lib.hid (show m = cnt (l.take (k + 1)) s by rw [HT.out, if_neg hx]; rfl)
        have hxb : (x == s) = false := by simpa using hx
        clear HT hx
        go_wp2_with fail
        go_round
        case rel => exact ⟨k + 1, m, by omega, by omega, by simp, rfl, HT2⟩
        case measure => simp [intOf]; omega
    · have hke : k = l.length := by omega
      subst hke
      rw [List.take_length] at HM
      go_wp2_with fail
      go_ret
      exact ⟨by rw [HM.out]; rfl, rfl⟩

/-- The symbols below a bound that are there, and how often each is. -/
def tsyms (t : List Int) (n : Nat) : List Int := ((List.range n).map (fun (s : Nat) => (s : Int))).filter (fun s => decide (0 < cnt t s))
def tcounts (t : List Int) (n : Nat) : List Int := (tsyms t n).map (fun s => (cnt t s : Int))
theorem tsyms_succ (t : List Int) (n : Nat) : tsyms t (n + 1) = tsyms t n ++ if 0 < cnt t n then [(n : Int)] else [] := by
  unfold tsyms
  rw [List.range_succ, List.map_append, List.filter_append]
  congr 1
  by_cases h : 0 < cnt t n <;> simp [h]
theorem tcounts_succ (t : List Int) (n : Nat) : tcounts t (n + 1) = tcounts t n ++ if 0 < cnt t n then [(cnt t n : Int)] else [] := by
  unfold tcounts
  rw [tsyms_succ, List.map_append]
  split <;> simp
theorem tsyms_len (t : List Int) (n : Nat) : (tsyms t n).length ≤ n := by
  unfold tsyms
  refine Nat.le_trans (List.length_filter_le _ _) (by simp)
theorem tcounts_len (t : List Int) (n : Nat) : (tcounts t n).length = (tsyms t n).length := by simp [tcounts]

structure TabPost (w : World) (l : List Int) (en : Ending) (w' : World) : Prop where mk ::
  up : Up w w'
  out : ∃ v1 v2, en = .returned (.tuple #[v1, v2]) ∧ Own w' w.heap.size 3 .i64 v1 (tsyms l 258) ∧ Own w' w.heap.size 3 .i64 v2 (tcounts l 258)

set_option maxHeartbeats 2000000 in
theorem ref14Table_calls (A : Option Addr) (c : Nat) (l : List Int) (w : World) (h1 : Rd w .i64 A c l) :
    Calls Try.prog 30 #[.slice A l.length c] w (TabPost w l) := by
  have hlen := h1.len
  go_enter Try.func30, Try.ntmps30
  go_wp2_with fail
  go_loopw [4, 5, 6, 7] (fun a b i _ wr => ∃ k : Nat, k ≤ 258 ∧ i = .int .i64 k ∧ Own wr w.heap.size 3 .i64 a (tsyms l k) ∧ Own wr w.heap.size 3 .i64 b (tcounts l k) ∧ (∀ g, a.ownBlock = some g → ¬ b.ownBlock = some g) ∧ Up w wr) (fun _ _ i _ _ => 258 - (intOf i).toNat)
  case atStart => exact ⟨0, by omega, rfl, Own.nil _ _ _ _, Own.nil _ _ _ _, (fun _ h => by simp [Value.ownBlock] at h), Up.refl _⟩
  case round =>
    obtain ⟨k, hk, rfl, ha, hb, hne, hu⟩ := hrel
    by_cases hlt : k < 258
    · have HL1 := Lib.hid (tsyms_len l k)
      have HL2 := Lib.hid (tcounts_len l k)
      have HS := Lib.hid (tsyms_succ l k)
      have HC := Lib.hid (tcounts_succ l k)
      have hcl := cnt_le l k
      have HNE := Lib.hid hne
      clear hne
      go_wp2_with fail
      refine (ref14Count_calls A c l k wr (h1.up hu)).mono ?_
      rintro e w1 ⟨rfl, rfl⟩
      generalize cnt l k = m at *
      by_cases h0 : 0 < m
      · have HS2 := Lib.hid (HS.out.trans (by rw [if_pos h0]))
        have HC2 := Lib.hid (HC.out.trans (by rw [if_pos h0]))
        clear HS HC
        have hla := ha.lt
        have hlb := hb.lt
        go_wp2_with (first
          | (refine wpl_push_int2 (t := 23) w.heap.size 3 .i64 8 Try.underlying23 infoInt _ (tsyms l k) (k : Int) rfl (InK.of_i64 (by omega) (by omega)) (fun _ => rfl) (fun _ => rfl) ha (by have := HL1.out; omega) (by decide) hu.size ?_
             intro v1 w1 hv1 hu1 hn1
             have hb1 := hb.upx hu1 fun g h1 h2 => HNE.out g h2 h1
             have hU1 : Up w w1 := hu.thenx hu1 fun i hi e => by have := (hla i e).1; omega)
          | (refine wpl_push_int2 (t := 23) w.heap.size 3 .i64 8 Try.underlying23 infoInt _ (tcounts l k) (m : Int) rfl (InK.of_i64 (by omega) (by omega)) (fun _ => rfl) (fun _ => rfl) hb1 (by have := HL1.out; have := HL2.out; omega) (by decide) hU1.size ?_
             intro v2 w2 hv2 hu2 hn2))
        go_roundw
        case rel =>
          have hne1 := hn1.apart HNE.out fun g h => (hlb g h).2
          have hl1 := hv1.lt
          refine ⟨k + 1, by omega, by simp, ?_, ?_, fun g h1 h2 => hn2.apart (fun g h1 h2 => hne1 g h2 h1) (fun g h => (hl1 g h).2) g h2 h1, hU1.thenx hu2 fun i hi e => by have := (hlb i e).1; omega⟩
          · rw [HS2.out]; exact hv1.upx hu2 fun g h1 h2 => hne1 g h1 h2
          · rw [HC2.out]; exact hv2
        case measure => simp [intOf]; omega
      · have HS2 := Lib.hid (HS.out.trans (by rw [if_neg h0, List.append_nil]))
        have HC2 := Lib.hid (HC.out.trans (by rw [if_neg h0, List.append_nil]))
        clear HS HC
        go_wp2_with fail
        go_roundw
        case rel => exact ⟨k + 1, by omega, by simp, by rw [HS2.out]; exact ha, by rw [HC2.out]; exact hb, HNE.out, hu⟩
        case measure => simp [intOf]; omega
    · have hke : k = 258 := by omega
      subst hke
      go_wp2_with fail
      go_ret2
      exact ⟨hu, _, _, rfl, ha, hb⟩
end Go.Proofs.Ytneliajeokajbaa
