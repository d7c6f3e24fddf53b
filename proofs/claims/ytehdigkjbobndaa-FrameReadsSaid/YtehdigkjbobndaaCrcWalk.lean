/- The program's check sum: the walks of crc.steps, told, Register.Add, Sum. -/
import Derived.Test.YtehdigkjbobndaaCrcRef
namespace Go.Proofs.Ytehdigkjbobndaa
open Go.RowKit
set_option maxRecDepth 100000

def tabZeros : Array Value := Array.replicate 256 (.int .u32 0)
/-- The table behind its first k entries. -/
def tabUpto (k : Nat) : Array Value := ((List.range k).map fun i => Value.int .u32 (CrcPlain.steps 8 i : Nat)).toArray ++ Array.replicate (256 - k) (.int .u32 0)
def tab : Array Value := tabUpto 256
theorem tab_zero : tabUpto 0 = tabZeros := by simp [tabUpto, tabZeros]
theorem tab_size (k : Nat) (hk : k ≤ 256) : (tabUpto k).size = 256 := by simp [tabUpto]; omega
theorem tab_succ (k : Nat) (hk : k < 256) : (tabUpto k).setIfInBounds k (.int .u32 (CrcPlain.steps 8 k : Nat)) = tabUpto (k + 1) := by
  apply Array.ext_getElem?
  intro i
  simp only [Array.getElem?_setIfInBounds, tabUpto, Array.getElem?_append, List.size_toArray, List.length_map, List.length_range, Array.getElem?_replicate, List.getElem?_toArray, List.getElem?_map, Array.size_append, Array.size_replicate]
  by_cases h : k = i
  · subst h
    simp [show k < k + (256 - k) by omega]
  · by_cases h1 : i < k
    · simp [h, h1, show i < k + 1 by omega]
    · simp [h, h1, show ¬ i < k + 1 by omega]
      congr 1
      exact propext (by omega)
theorem tab_at (i : Nat) (hi : i < 256) : tab[i]? = some (.int .u32 (CrcPlain.steps 8 i : Nat)) := by simp [tab, tabUpto, hi]
theorem tab_at' (k i : Nat) (hi : i < 256) : ∃ v, (tabUpto k)[i]? = some v := by
  by_cases hk : k ≤ 256
  · have := tab_size k hk
    exact ⟨_, Array.getElem?_eq_getElem (by omega)⟩
  · exact ⟨_, Array.getElem?_eq_getElem (by simp [tabUpto]; omega)⟩
theorem tab_info : (Try.prog.info? 136).bind (·.zero) = some (.agg tabZeros) := by kernel_rfl

theorem crc_and1 (x : Nat) (hx : x < 4294967296) : bits .and .u32 (x : Int) 1 = ((x % 2 : Nat) : Int) := by
  have := u32_and_nat x 1 hx (by decide)
  simpa using this
theorem crc_odd (x : Nat) (hx : x < 4294967296) (h : (bits .and .u32 (x : Int) 1 == 1) = true) : bits .xor .u32 ((x : Int) / 2) 2197175160 = (CrcPlain.step1 x : Nat) ∧ CrcPlain.step1 x < 4294967296 := by
  rw [crc_and1 x hx] at h
  have h1 : x % 2 = 1 := by simp only [beq_iff_eq] at h; omega
  refine ⟨?_, CrcPlain.step1_lt hx⟩
  have := u32_xor_cast (x / 2) CrcPlain.poly (by omega) CrcPlain.poly_lt
  unfold CrcPlain.step1
  rw [if_pos h1, ← this]
  rfl
theorem crc_even (x : Nat) (hx : x < 4294967296) (h : (bits .and .u32 (x : Int) 1 == 1) = false) : (x : Int) / 2 = (CrcPlain.step1 x : Nat) := by
  rw [crc_and1 x hx] at h
  have h1 : ¬ x % 2 = 1 := by simp only [beq_eq_false_iff_ne, ne_eq] at h; omega
  unfold CrcPlain.step1
  rw [if_neg h1]
  omega

set_option maxHeartbeats 400000 in
theorem crcSteps_calls (w : World) :
    Calls Try.prog 78 #[] w fun e w' => e = .returned (.agg tab) ∧ Up w w' := by
  go_enter Try.func78, Try.ntmps78
  go_wp2_with (refine wpl_alloc tab_info ?_)
  go_loopw [2, 3, 4, 5] (fun _ _ _ i wr => ∃ k : Nat, k ≤ 256 ∧ i = .int .i64 k ∧ Up w wr ∧ Blk wr w.heap.size 136 tabZeros ∧ Blk wr (w.heap.size + 1) 136 (tabUpto k)) (fun _ _ _ i _ => 256 - (intOf i).toNat)
  case atStart =>
    refine ⟨0, by omega, rfl, ((Up.refl _).alloc _).alloc _, (Blk.new _ _ _).alloc _, ?_⟩
    rw [tab_zero]
    have := Blk.new (w.alloc (.cells tabZeros 136)) 136 tabZeros
    simpa using this
  case round =>
    obtain ⟨k, hk, rfl, hu, hb0, hb1⟩ := hrel
    by_cases hlt : k < 256
    · go_wp2
      go_loop [3, 4, 10] (fun r _ i => ∃ j x : Nat, j ≤ 8 ∧ x < 4294967296 ∧ i = .int .i64 j ∧ r = .int .u32 x ∧ Hid (x = CrcPlain.steps j k)) (fun _ _ i => 8 - (intOf i).toNat)
      case atStart => exact ⟨0, k, by omega, by omega, rfl, rfl, by simp [Hid, CrcPlain.steps]⟩
      case round =>
        obtain ⟨j, x, hj, hx, rfl, rfl, HX⟩ := hrel
        by_cases hj8 : j < 8
        · go_wp2
          · obtain ⟨e1, e2⟩ := crc_odd x hx (by assumption)
            go_round
            case rel => exact ⟨j + 1, CrcPlain.step1 x, by omega, e2, by go_num, by rw [e1], Lib.hid (by rw [CrcPlain.steps_succ, HX.out])⟩
            case measure => simp [intOf]; omega
          · have e1 := crc_even x hx (by assumption)
            go_round
            case rel => exact ⟨j + 1, CrcPlain.step1 x, by omega, CrcPlain.step1_lt hx, by go_num, by rw [e1], Lib.hid (by rw [CrcPlain.steps_succ, HX.out])⟩
            case measure => simp [intOf]; omega
        · obtain rfl : j = 8 := by omega
          obtain ⟨v, hv⟩ := tab_at' k k hlt
          have hc := hb1.cell k
          rw [hv] at hc
          have hf := hb1.frozen k
          go_wp2
          go_roundw
          case rel =>
            refine ⟨k + 1, by omega, by go_num, hu.setCell (by simp) _, hb0.other _ _ (by simp), ?_⟩
            have := hb1.set k (.int .u32 x)
            rw [HX.out, tab_succ k hlt] at this
            rw [HX.out]
            exact this
          case measure => simp [intOf]; omega
    · obtain rfl : k = 256 := by omega
      go_wp2_with (first
        | (refine wpList_load_row rfl _ _ rfl (w.heap.size + 1) rfl _ _ _ _ hb1.out Try.underlying136 rfl (by kernel_rfl) ?_)
        | (refine wpList_store_row rfl _ _ _ rfl w.heap.size _ rfl rfl _ _ hb0.out (by kernel_rfl) (by kernel_rfl) (by kernel_rfl) ?_))
      refine bodyPost_ret (results_cell_row rfl _ _ w.heap.size _ _ _ _ rfl (hb0.row _).out Try.underlying136 rfl (by kernel_rfl)) rfl ⟨rfl, hu.setRow (Nat.le_refl _) _⟩

theorem crc_not (b : Nat) (hb : b < 4294967296) : bits .xor .u32 IntKind.u32.max (b : Int) = ((b ^^^ CrcPlain.ones : Nat) : Int) := by
  have := u32_xor_cast CrcPlain.ones b CrcPlain.ones_lt hb
  rw [Nat.xor_comm b, ← this]
  rfl
theorem crc_fold_lt (w : World) {A : Option Addr} {c : Nat} (ls : List (List Int)) (r k : Nat) (hl : RdL w .u8 A c ls) (hr : r < 4294967296) : CrcPlain.fold r (ls.take k).flatten < 4294967296 := by
  refine CrcPlain.fold_lt _ hr fun x hx => ?_
  obtain ⟨l, hl1, hl2⟩ := List.mem_flatten.1 hx
  obtain ⟨i, hi, rfl⟩ := List.mem_iff_getElem.1 (List.mem_of_mem_take hl1)
  obtain ⟨_, l', _, _, _, _, h3, H⟩ := hl.get i hi
  have := H.out
  rw [List.getD_eq_getElem?_getD, List.getElem?_eq_getElem hi] at this
  simp only [Option.getD_some] at this
  rw [this] at hl2
  exact h3.u8 x hl2
theorem crc_look (w : World) (g : Nat) (hg : Blk w g 136 tab) (R y : Nat) (hR : R < 4294967296) (hy : y < 256) :
    ∃ ix : Nat, ix < 256 ∧ bits .xor .u8 ((R : Int) % 256) (y : Int) = (ix : Int) ∧ w.cell? ⟨g, ix, none⟩ = some (.int .u32 (CrcPlain.steps 8 ix : Nat)) ∧
      bits .xor .u32 ((CrcPlain.steps 8 ix : Nat) : Int) ((R : Int) / 256) = ((CrcPlain.byte R y : Nat) : Int) := by
  have hix : (R % 256) ^^^ y < 256 := Nat.xor_lt_two_pow (n := 8) (Nat.mod_lt _ (by decide)) hy
  refine ⟨(R % 256) ^^^ y, hix, ?_, (hg.cell _).trans (tab_at _ hix), ?_⟩
  · have := u8_xor_nat (R % 256) y (Nat.mod_lt _ (by decide)) hy
    rw [← this]
    simp
  · have := u32_xor_cast (CrcPlain.steps 8 ((R % 256) ^^^ y)) (R / 256) (CrcPlain.steps_lt 8 (by omega)) (by omega)
    rw [CrcPlain.byte_table R y hy, ← this]
    simp

set_option maxHeartbeats 400000 in
theorem crcTold_calls (b g : Nat) (A : Option Addr) (c : Nat) (ls : List (List Int)) (w : World) (hb : b < 4294967296) (hg : Blk w g 136 tab) (hl : RdL w .u8 A c ls) :
    Calls Try.prog 79 #[.int .u32 b, .pointer (some ⟨g, 0, none⟩), .slice A ls.length c] w fun e w' => e = .returned (.int .u32 (CrcPlain.fold (b ^^^ CrcPlain.ones) ls.flatten ^^^ CrcPlain.ones : Nat)) ∧ w = w' := by
  have hlen := hl.len
  go_enter Try.func79, Try.ntmps79
  go_wp2
  go_loop [7, 9, 11, 16] (fun r _ _ i => ∃ k : Nat, k ≤ ls.length ∧ i = .int .i64 k ∧ r = .int .u32 (CrcPlain.fold (b ^^^ CrcPlain.ones) (ls.take k).flatten : Nat)) (fun _ _ _ i => ls.length - (intOf i).toNat)
  case atStart => exact ⟨0, by omega, rfl, by rw [crc_not b hb]; rfl⟩
  case round =>
    obtain ⟨k, hk, rfl, rfl⟩ := hrel
    by_cases hlt : k < ls.length
    · obtain ⟨ad, l, A', c', rfl, hcell, hrd, HL⟩ := hl.get k hlt
      have hll := hrd.len
      have HS := Lib.hid (show (ls.take (k + 1)).flatten = (ls.take k).flatten ++ l by rw [take_succ_getD ls k [] hlt, HL.out]; simp)
      have hR0 : CrcPlain.fold (b ^^^ CrcPlain.ones) (ls.take k).flatten < 4294967296 := crc_fold_lt w ls _ k hl (Nat.xor_lt_two_pow (n := 32) hb CrcPlain.ones_lt)
      generalize hF : CrcPlain.fold (b ^^^ CrcPlain.ones) (ls.take k).flatten = R0 at *
      have HF := Lib.hid hF
      clear hF
      go_wp2
      go_loop [7, 11, 22] (fun r _ i => ∃ j R : Nat, j ≤ l.length ∧ R < 4294967296 ∧ i = .int .i64 j ∧ r = .int .u32 R ∧ Hid (R = CrcPlain.fold R0 (l.take j))) (fun _ _ i => l.length - (intOf i).toNat)
      case atStart => exact ⟨0, R0, by omega, hR0, rfl, rfl, Lib.hid rfl⟩
      case round =>
        obtain ⟨j, R, hj, hR, rfl, rfl, HX⟩ := hrel
        by_cases hjl : j < l.length
        · obtain ⟨ad2, x, rfl, hc2, HX2, hx⟩ := hrd.get j hjl
          obtain ⟨hx0, hx1⟩ := hx.u8
          obtain ⟨y, hy⟩ := Int.eq_ofNat_of_zero_le hx0
          subst hy
          obtain ⟨ix, hix, e30, hct, e36⟩ := crc_look w g hg R y hR (by omega)
          go_wp2
          go_round
          case rel =>
            refine ⟨j + 1, CrcPlain.byte R y, by omega, CrcPlain.byte_lt hR (by omega), by go_num, rfl, Lib.hid ?_⟩
            rw [take_succ_getD l j 0 hjl, CrcPlain.fold_snoc, HX2.out, ← HX.out]
            rfl
          case measure => simp [intOf]; omega
        · obtain rfl : j = l.length := by omega
          go_wp2
          go_round
          case rel => exact ⟨k + 1, by omega, by go_num, by rw [HS.out, CrcPlain.fold_append, HF.out, HX.out, List.take_length]⟩
          case measure => simp [intOf]; omega
    · obtain rfl : k = ls.length := by omega
      rw [List.take_length]
      have e := crc_not _ (by have := crc_fold_lt w ls (b ^^^ CrcPlain.ones) ls.length hl (Nat.xor_lt_two_pow (n := 32) hb CrcPlain.ones_lt); rw [List.take_length] at this; exact this)
      go_wp2
      go_ret
      exact ⟨rfl, rfl⟩

/-- The register at a block: its bits, how many bytes. -/
def Reg (w : World) (g B n : Nat) : Prop := Blk w g 133 #[.int .u32 B, .int .i64 n]

set_option maxHeartbeats 400000 in
theorem regAdd_nil (A : Option Addr) (c n : Nat) (w : World) :
    Calls Try.prog 76 #[.pointer none, .slice A n c] w fun e w' => e = .returned (.pointer none) ∧ w = w' := by
  go_enter Try.func76, Try.ntmps76
  go_wp2
  go_ret
  exact ⟨rfl, rfl⟩

set_option maxHeartbeats 400000 in
theorem regAdd_calls (g B n : Nat) (A : Option Addr) (c : Nat) (ls : List (List Int)) (w : World) (hB : B < 4294967296) (hg : Reg w g B n) (hl : RdLF (fun b => b ≠ g) w .u8 A c ls) (hn : n + ls.flatten.length ≤ 9223372036854775807) :
    Calls Try.prog 76 #[.pointer (some ⟨g, 0, none⟩), .slice A ls.length c] w fun e w' => e = .returned (.pointer (some ⟨g, 0, none⟩)) ∧ UpX (fun b => b = g) w w' ∧ Reg w' g (CrcPlain.fold (B ^^^ CrcPlain.ones) ls.flatten ^^^ CrcPlain.ones) (n + ls.flatten.length) := by
  have hlen := hl.rd.len
  go_enter Try.func76, Try.ntmps76
  go_wp2_with fail
  refine (crcSteps_calls _).mono ?_
  rintro e w1 ⟨rfl, hu1⟩
  go_wp2_with (first
    | (refine wpl_alloc' tab_info ?_; intro w2 hu2 hb2 hs2)
    | (refine wpl_store_row w1.heap.size 136 tabZeros tab rfl rfl (by assumption) (by kernel_rfl) (by kernel_rfl) (by kernel_rfl) ?_
       intro w3 hu3 hb3 hs3
       have hne : g ≠ w1.heap.size := by have h1 := Blk.lt hg; have h2 := hu1.size; omega
       have hg3 : Blk w3 g 133 #[.int .u32 B, .int .i64 n] := (((show Blk w g _ _ from hg).up hu1).up hu2).upx hu3 hne
       have c0 : w3.cell? ⟨g, 0, none⟩ = some (.int .u32 B) := hg3.cell 0
       have f0 : w3.frozen? ⟨g, 0, none⟩ = false := hg3.frozen 0
       have hx3 : UpX (fun b => b = g) w w3 := (((hu1.trans hu2).x (fun b => b = g)).then_ hu3 (fun i hi e => by have h2 := hu1.size; omega))
       have hl3 : RdLF (fun b => b ≠ g) w3 .u8 A c ls := (((hl.low.up hu1).up hu2).upx hu3 (fun b hb e => by have := hb.2; have h2 := hu1.size; omega)).mono fun b hb => hb.1)
    | (go_at_call 79; refine (crcTold_calls _ _ _ _ _ _ hB (by assumption) hl3.rd).mono ?_; rintro e w4 ⟨rfl, rfl⟩))
  generalize hB2 : CrcPlain.fold (B ^^^ CrcPlain.ones) ls.flatten ^^^ CrcPlain.ones = B2 at *
  have HB := Lib.hid hB2
  clear hB2
  go_loopw [7, 22] (fun _ i wr => ∃ k : Nat, k ≤ ls.length ∧ i = .int .i64 k ∧ UpX (fun b => b = g) w wr ∧ Reg wr g B2 (n + (ls.take k).flatten.length) ∧ RdLF (fun b => b ≠ g) wr .u8 A c ls) (fun _ i _ => ls.length - (intOf i).toNat)
  case atStart =>
    have hx : UpX (fun b => b = g) w3 (w3.setCell ⟨g, 0, none⟩ (.int .u32 B2)) := UpX.one _ _ _ _
    exact ⟨0, by omega, rfl, hx3.trans hx, hg3.set 0 _, hl3.upx hx fun b hb e => hb e⟩
  case round =>
    obtain ⟨k, hk, rfl, hx, hr, hl⟩ := hrel
    by_cases hlt : k < ls.length
    · obtain ⟨ad, l, A', c', rfl, hcell, hrd, HL⟩ := hl.rd.get k hlt
      have hll := hrd.len
      have HS := Lib.hid (show (ls.take (k + 1)).flatten.length = (ls.take k).flatten.length + l.length by rw [take_succ_getD ls k [] hlt, HL.out]; simp)
      have hle : (ls.take (k + 1)).flatten.length ≤ ls.flatten.length := flatten_take_le ls (k + 1)
      rw [HS.out] at hle
      have c1 : wr.cell? ⟨g, 1, none⟩ = some (.int .i64 (n + (ls.take k).flatten.length : Nat)) := Blk.cell hr 1
      have f1 : wr.frozen? ⟨g, 1, none⟩ = false := Blk.frozen hr 1
      have hr0 : Reg wr g B2 (n + (ls.take k).flatten.length) := hr
      generalize hN : (ls.take k).flatten.length = N at *
      have HN := Lib.hid hN
      clear hN
      go_wp2
      go_roundw
      case rel =>
        have hxx : UpX (fun b => b = g) wr (wr.setCell ⟨g, 1, none⟩ (.int .i64 ((n : Int) + N + l.length))) := UpX.one _ _ _ _
        refine ⟨k + 1, by omega, by go_num, hx.trans hxx, ?_, hl.upx hxx fun b hb e => hb e⟩
        have := (show Blk wr g _ _ from hr).set 1 (.int .i64 ((n : Int) + N + l.length))
        rw [HS.out]
        have e : ((n : Int) + N + l.length) = ((n + (N + l.length) : Nat) : Int) := by omega
        rw [e] at this ⊢
        exact this
      case measure => simp [intOf]; omega
    · obtain rfl : k = ls.length := by omega
      rw [List.take_length] at hr
      go_wp2
      go_ret
      exact ⟨rfl, hx, by rw [HB.out]; exact hr⟩
end Go.Proofs.Ytehdigkjbobndaa
