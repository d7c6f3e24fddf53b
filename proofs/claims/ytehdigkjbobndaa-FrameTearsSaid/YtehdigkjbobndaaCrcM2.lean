/- Several texts in one: CrcPlain, CrcRef, CrcWalk, CrcSum, Lib1, CrcMark, CrcTurnPlain. -/
import Derived.Test.YtehdigkjbobndaaProg
import Derived.Test.YtehdigkjbobndaaBase
import Derived.Lib.AppendZeros
import Derived.Laws.BytesArg
import Derived.Deep.RegionHeld3
/- The check sum of bytes, as plain numbers: bit by bit, byte by byte, and by a table; a byte turned turns it. No program here. -/
namespace Go.Proofs.Ytehdigkjbobndaa.CrcPlain

def poly : Nat := 2197175160
def step1 (r : Nat) : Nat := if r % 2 = 1 then (r / 2) ^^^ poly else r / 2
def steps : Nat → Nat → Nat
  | 0, r => r
  | n + 1, r => steps n (step1 r)
def byte (r b : Nat) : Nat := steps 8 (r ^^^ b)
def fold (r : Nat) (l : List Int) : Nat := l.foldl (fun r b => byte r b.toNat) r
def ones : Nat := 4294967295
def crc (l : List Int) : Nat := fold ones l ^^^ ones

theorem poly_lt : poly < 2 ^ 32 := by decide

theorem step1_lt {r : Nat} (h : r < 2 ^ 32) : step1 r < 2 ^ 32 := by
  unfold step1
  split
  · exact Nat.xor_lt_two_pow (by omega) poly_lt
  · omega

theorem steps_lt (n : Nat) : ∀ {r : Nat}, r < 2 ^ 32 → steps n r < 2 ^ 32 := by
  induction n with
  | zero => intro r h; exact h
  | succ n ih => intro r h; exact ih (step1_lt h)

theorem byte_lt {r b : Nat} (h : r < 2 ^ 32) (hb : b < 256) : byte r b < 2 ^ 32 :=
  steps_lt 8 (Nat.xor_lt_two_pow h (by omega))

theorem steps_succ (n r : Nat) : steps (n + 1) r = step1 (steps n r) := by
  induction n generalizing r with
  | zero => rfl
  | succ n ih => exact ih (step1 r)

theorem xor_mod2 (a b : Nat) : (a ^^^ b) % 2 = (a % 2 + b % 2) % 2 := by
  have h := Nat.xor_mod_two_pow (a := a) (b := b) (n := 1)
  rw [show (2 : Nat) = 2 ^ 1 from rfl, h]
  rcases Nat.mod_two_eq_zero_or_one a with ha | ha <;> rcases Nat.mod_two_eq_zero_or_one b with hb | hb <;> simp [ha, hb]

theorem xor_div2 (a b : Nat) : (a ^^^ b) / 2 = (a / 2) ^^^ (b / 2) := Nat.xor_div_two

theorem step1_xor (a b : Nat) : step1 (a ^^^ b) = step1 a ^^^ step1 b := by
  unfold step1
  have hm := xor_mod2 a b
  rcases Nat.mod_two_eq_zero_or_one a with ha | ha <;> rcases Nat.mod_two_eq_zero_or_one b with hb | hb <;>
    simp only [ha, hb, xor_div2, if_true] at hm ⊢
  · rw [if_neg (by omega), if_neg (by omega), if_neg (by omega)]
  · rw [if_pos (by omega), if_neg (by omega)]
    exact Nat.xor_assoc _ _ _
  · rw [if_pos (by omega), if_neg (by omega)]
    rw [Nat.xor_assoc, Nat.xor_assoc, Nat.xor_comm poly]
  · rw [if_neg (by omega)]
    rw [Nat.xor_assoc, Nat.xor_comm poly, Nat.xor_assoc, Nat.xor_self, Nat.xor_zero]

theorem steps_xor (n : Nat) : ∀ a b, steps n (a ^^^ b) = steps n a ^^^ steps n b := by
  induction n with
  | zero => intro a b; rfl
  | succ n ih => intro a b; simp only [steps, step1_xor, ih]

theorem steps_shift (n : Nat) : ∀ z, steps n (2 ^ n * z) = z := by
  induction n with
  | zero => intro z; simp [steps]
  | succ n ih =>
    intro z
    have h : step1 (2 ^ (n + 1) * z) = 2 ^ n * z := by
      unfold step1
      rw [Nat.pow_succ, Nat.mul_comm (2 ^ n) 2, Nat.mul_assoc, if_neg (by omega)]
      omega
    simp only [steps, h, ih]

/-- The table's way: the low byte by the table, the others moved down. -/
theorem steps8_split (x : Nat) : steps 8 x = steps 8 (x % 256) ^^^ (x / 256) := by
  have hx : x = (x % 256) ^^^ (2 ^ 8 * (x / 256)) := by
    have h := Nat.two_pow_add_eq_or_of_lt (i := 8) (b := x % 256) (Nat.mod_lt _ (by decide)) (x / 256)
    have h2 : x = 2 ^ 8 * (x / 256) + x % 256 := by
      show x = 256 * (x / 256) + x % 256
      omega
    have h3 : (2 ^ 8 * (x / 256)) ||| (x % 256) = (x % 256) ^^^ (2 ^ 8 * (x / 256)) := by
      apply Nat.eq_of_testBit_eq
      intro i
      rw [Nat.testBit_or, Nat.testBit_xor]
      rcases Nat.lt_or_ge i 8 with hi | hi
      · have : (2 ^ 8 * (x / 256)).testBit i = false := by
          rw [Nat.testBit_two_pow_mul]
          simp
          omega
        rw [this]; simp
      · have : (x % 256).testBit i = false :=
          Nat.testBit_lt_two_pow (Nat.lt_of_lt_of_le (Nat.mod_lt x (by decide : 0 < 256)) (show 256 ≤ 2 ^ i from Nat.pow_le_pow_right (by decide : 2 > 0) hi))
        rw [this]; simp
    rw [← h3, ← h]
    exact h2
  conv => lhs; rw [hx]
  rw [steps_xor, steps_shift]

theorem byte_table (r b : Nat) (hb : b < 256) : byte r b = steps 8 ((r % 256) ^^^ b) ^^^ (r / 256) := by
  unfold byte
  rw [steps8_split]
  have h1 : (r ^^^ b) % 256 = (r % 256) ^^^ b := by
    have := Nat.xor_mod_two_pow (a := r) (b := b) (n := 8)
    rw [show (256 : Nat) = 2 ^ 8 from rfl, this, Nat.mod_eq_of_lt (a := b) hb]
  have h2 : (r ^^^ b) / 256 = r / 256 := by
    have := Nat.xor_div_two_pow (a := r) (b := b) (n := 8)
    rw [show (256 : Nat) = 2 ^ 8 from rfl, this, Nat.div_eq_of_lt (a := b) hb, Nat.xor_zero]
  rw [h1, h2]

/-- Bit by bit: behind k bits. -/
theorem bit_round (r b k : Nat) (_ : k < 8) :
    (if (r ^^^ (b / 2 ^ k)) % 2 = 1 then (r / 2) ^^^ poly else r / 2) ^^^ (b / 2 ^ (k + 1)) = step1 (r ^^^ (b / 2 ^ k)) := by
  unfold step1
  rw [xor_div2, Nat.pow_succ, ← Nat.div_div_eq_div_mul]
  split
  · rw [Nat.xor_assoc, Nat.xor_comm poly, Nat.xor_assoc]
  · rfl

theorem fold_append (r : Nat) (l m : List Int) : fold r (l ++ m) = fold (fold r l) m := by simp [fold, List.foldl_append]
theorem fold_nil (r : Nat) : fold r [] = r := rfl
theorem fold_snoc (r : Nat) (l : List Int) (x : Int) : fold r (l ++ [x]) = byte (fold r l) x.toNat := by simp [fold, List.foldl_append]

theorem fold_lt (l : List Int) : ∀ {r : Nat}, r < 2 ^ 32 → (∀ x ∈ l, 0 ≤ x ∧ x < 256) → fold r l < 2 ^ 32 := by
  induction l with
  | nil => intro r h _; exact h
  | cons x l ih =>
    intro r h hl
    have hx := hl x (by simp)
    exact ih (byte_lt h (by omega)) fun y hy => hl y (by simp [hy])

theorem ones_lt : ones < 2 ^ 32 := by decide
theorem crc_lt (l : List Int) (hl : ∀ x ∈ l, 0 ≤ x ∧ x < 256) : crc l < 2 ^ 32 := Nat.xor_lt_two_pow (fold_lt l ones_lt hl) ones_lt
theorem crc_xor (l : List Int) : crc l ^^^ ones = fold ones l := by unfold crc; rw [Nat.xor_assoc, Nat.xor_self, Nat.xor_zero]
theorem crc_append (l m : List Int) : fold (crc l ^^^ ones) m ^^^ ones = crc (l ++ m) := by rw [crc_xor, ← fold_append]; rfl
theorem crc_nil : crc [] = 0 := by decide

end Go.Proofs.Ytehdigkjbobndaa.CrcPlain

/- The document's check sum: the walk of incipitref01.Sum, Same and Low. -/
namespace Go.Proofs.Ytehdigkjbobndaa
open Go.RowKit
set_option maxRecDepth 100000

theorem u32_xor_cast (a b : Nat) (ha : a < 2 ^ 32) (hb : b < 2 ^ 32) : bits .xor .u32 (a : Int) (b : Int) = ((a ^^^ b : Nat) : Int) := u32_xor_nat a b ha hb

theorem refSum_bit (x b : Nat) (hx : x < 2 ^ 32) (j : Nat) (R : Nat) (hj : j < 8) (h : x ^^^ (b / 2 ^ j) = CrcPlain.steps j R) (ht : ((x : Int) % 2 != (b : Int) / 2 ^ j % 2) = true) :
    ∃ y : Nat, bits .xor .u32 ((x : Int) / 2) 2197175160 = (y : Int) ∧ y < 2 ^ 32 ∧ y ^^^ (b / 2 ^ (j + 1)) = CrcPlain.steps (j + 1) R := by
  have e : ((x : Int) / 2) = ((x / 2 : Nat) : Int) := by omega
  refine ⟨(x / 2) ^^^ CrcPlain.poly, ?_, Nat.xor_lt_two_pow (by omega) CrcPlain.poly_lt, ?_⟩
  · rw [e]; exact u32_xor_cast _ _ (by omega) CrcPlain.poly_lt
  · rw [CrcPlain.steps_succ, ← h, ← CrcPlain.bit_round x b j hj, if_pos]
    rw [CrcPlain.xor_mod2]
    have h2 : ((b / 2 ^ j : Nat) : Int) = (b : Int) / 2 ^ j := by simp
    rw [← h2] at ht
    simp only [bne_iff_ne, ne_eq] at ht
    omega
theorem refSum_bit0 (x b : Nat) (hx : x < 2 ^ 32) (j : Nat) (R : Nat) (hj : j < 8) (h : x ^^^ (b / 2 ^ j) = CrcPlain.steps j R) (ht : ((x : Int) % 2 != (b : Int) / 2 ^ j % 2) = false) :
    ∃ y : Nat, ((x : Int) / 2) = (y : Int) ∧ y < 2 ^ 32 ∧ y ^^^ (b / 2 ^ (j + 1)) = CrcPlain.steps (j + 1) R := by
  refine ⟨x / 2, by omega, by omega, ?_⟩
  rw [CrcPlain.steps_succ, ← h, ← CrcPlain.bit_round x b j hj, if_neg]
  rw [CrcPlain.xor_mod2]
  have h2 : ((b / 2 ^ j : Nat) : Int) = (b : Int) / 2 ^ j := by simp
  rw [← h2] at ht
  simp only [bne_eq_false_iff_eq] at ht
  omega

set_option maxHeartbeats 400000 in
theorem refSum_calls (A : Option Addr) (c : Nat) (l : List Int) (w : World) (hrd : Rd w .u8 A c l) :
    Calls Try.prog 68 #[.slice A l.length c] w fun e w' => e = .returned (.int .u32 (CrcPlain.crc l)) ∧ w = w' := by
  have hlen := hrd.len
  have H8 := Lib.hid hrd.u8
  go_enter Try.func68, Try.ntmps68
  go_wp2
  go_loop [3,4,5,6,7] (fun r i _ _ _ => ∃ k : Nat, k ≤ l.length ∧ i = .int .i64 k ∧ r = .int .u32 (CrcPlain.fold CrcPlain.ones (l.take k))) (fun _ i _ _ _ => l.length - (intOf i).toNat)
  case atStart => exact ⟨0, by omega, rfl, rfl⟩
  case round =>
    obtain ⟨k, hk, rfl, rfl⟩ := hrel
    by_cases hlt : k < l.length
    · obtain ⟨ad, rfl, hcell⟩ := hrd.at_ k hlt
      obtain ⟨hb0, hb1⟩ := (hrd.range k hlt).u8
      obtain ⟨b, hb⟩ := Int.eq_ofNat_of_zero_le hb0
      rw [hb] at hcell hb1
      have hR : CrcPlain.fold CrcPlain.ones (l.take k) < 4294967296 := CrcPlain.fold_lt _ CrcPlain.ones_lt fun x hx => H8.out x (List.mem_of_mem_take hx)
      have HB := Lib.hid hb
      clear hb hb0
      generalize hF : CrcPlain.fold CrcPlain.ones (l.take k) = R at *
      have HF := Lib.hid hF
      clear hF
      go_wp2
      go_loop [3,5,6,7] (fun r i _ _ => ∃ j x : Nat, j ≤ 8 ∧ x < 4294967296 ∧ i = .int .i64 j ∧ r = .int .u32 x ∧ Hid (x ^^^ (b / 2 ^ j) = CrcPlain.steps j (R ^^^ b))) (fun _ i _ _ => 8 - (intOf i).toNat)
      case atStart => exact ⟨0, R, by omega, hR, rfl, rfl, by simp [Hid, CrcPlain.steps]⟩
      case round =>
        obtain ⟨j, x, hj, hx, rfl, rfl, HX⟩ := hrel
        by_cases hj8 : j < 8
        · go_wp2
          · obtain ⟨y, e1, e2, e3⟩ := refSum_bit x b hx j _ hj8 HX.out (by assumption)
            go_round
            case rel => exact ⟨j + 1, y, by omega, e2, by go_num, by rw [e1], e3⟩
            case measure => simp [intOf]; omega
          · obtain ⟨y, e1, e2, e3⟩ := refSum_bit0 x b hx j _ hj8 HX.out (by assumption)
            go_round
            case rel => exact ⟨j + 1, y, by omega, e2, by go_num, by rw [e1], e3⟩
            case measure => simp [intOf]; omega
        · obtain rfl : j = 8 := by omega
          go_wp2
          go_round
          case rel =>
            refine ⟨k + 1, by omega, by go_num, ?_⟩
            have e := HX.out
            rw [show b / 2 ^ 8 = 0 by omega, Nat.xor_zero] at e
            rw [List.take_succ_eq_append_getElem hlt, CrcPlain.fold_snoc, HF.out, e]
            have hb := HB.out
            rw [List.getD_eq_getElem?_getD, List.getElem?_eq_getElem hlt] at hb
            simp only [Option.getD_some] at hb
            rw [hb]
            rfl
          case measure => simp [intOf]; omega
    · obtain rfl : k = l.length := by omega
      rw [List.take_length]
      have hR : CrcPlain.fold CrcPlain.ones l < 4294967296 := CrcPlain.fold_lt _ CrcPlain.ones_lt H8.out
      have hfin : bits .xor .u32 ((CrcPlain.fold CrcPlain.ones l : Nat) : Int) 4294967295 = ((CrcPlain.crc l : Nat) : Int) := u32_xor_cast _ _ hR CrcPlain.ones_lt
      go_wp2
      go_ret
      exact ⟨rfl, rfl⟩

theorem eq_of_getD {l m : List Int} (h : l.length = m.length) (hk : ∀ i, i < l.length → l.getD i 0 = m.getD i 0) : l = m := by
  refine List.ext_getElem h fun i h1 h2 => ?_
  have := hk i h1
  simpa [List.getD_eq_getElem?_getD, List.getElem?_eq_getElem h1, List.getElem?_eq_getElem h2] using this

set_option maxHeartbeats 400000 in
theorem refSame_calls (A B : Option Addr) (c d : Nat) (l m : List Int) (w : World) (h1 : Rd w .u8 A c l) (h2 : Rd w .u8 B d m) :
    Calls Try.prog 15 #[.slice A l.length c, .slice B m.length d] w fun e w' => e = .returned (.bool (decide (l = m))) ∧ Qt w w' := by
  have hl1 := h1.len
  have hl2 := h2.len
  by_cases hlen : l.length = m.length
  · have Hlen := Lib.hid hlen
    have b1 : ((l.length : Int) != (m.length : Int)) = false := by simp [hlen]
    have b2 : (l.length != m.length) = false := by simp [hlen]
    clear hlen
    go_enter Try.func15, Try.ntmps15
    go_wp2
    go_loopw [5] (fun i wr => ∃ k : Nat, k ≤ l.length ∧ i = .int .i64 k ∧ Hid (∀ j, j < k → l.getD j 0 = m.getD j 0) ∧ Qt w wr) (fun i _ => l.length - (intOf i).toNat)
    case atStart => exact ⟨0, by omega, rfl, (fun j hj => absurd hj (by omega)), Qt.refl _⟩
    case round =>
      obtain ⟨k, hk, rfl, HE, hq⟩ := hrel
      obtain ⟨n, rfl⟩ := hq.out
      by_cases hlt : k < l.length
      · have hltm : k < m.length := by rw [← Hlen.out]; exact hlt
        obtain ⟨a1, x, rfl, c1, HX, _⟩ := h1.get k hlt
        obtain ⟨a2, y, rfl, c2, HY, _⟩ := h2.get k hltm
        by_cases he : x = y
        · subst he
          go_wp2
          go_quiet (fail)
          go_wp2
          go_roundw
          case rel => exact ⟨k + 1, by omega, by go_num, (fun j hj => by rcases Nat.lt_succ_iff_lt_or_eq.1 hj with h | rfl; exact HE.out j h; exact HX.out.trans HY.out.symm), (by first | exact ⟨⟨_, rfl⟩⟩ | exact Qt.drewN hq _ | exact hq)⟩
          case measure => simp [intOf]; omega
        · have hb : (x != y) = true := by simpa using he
          have Hne := Lib.hid (show l ≠ m from fun e => he (by rw [← HX.out, ← HY.out, e]))
          clear he
          go_wp2
          go_quiet (fail)
          go_wp2
          go_ret
          exact ⟨by simp [Hne.out], (by first | exact ⟨⟨_, rfl⟩⟩ | exact Qt.drewN hq _ | exact hq)⟩
      · obtain rfl : k = l.length := by omega
        have e : l = m := eq_of_getD Hlen.out HE.out
        go_wp2
        go_ret
        exact ⟨by simp [e], (by first | exact ⟨⟨_, rfl⟩⟩ | exact Qt.drewN hq _ | exact hq)⟩
  · have b1 : ((l.length : Int) != (m.length : Int)) = true := by simp; omega
    have hne : l ≠ m := fun e => hlen (by rw [e])
    have Hne := Lib.hid hne
    clear hlen hne
    go_enter Try.func15, Try.ntmps15
    go_wp2
    go_ret
    exact ⟨by simp [Hne.out], Qt.refl _⟩

theorem refSum_n {A : Option Addr} {c n : Nat} {l : List Int} {w : World} (h1 : Rd w .u8 A c l) (hn : n = l.length) :
    Calls Try.prog 68 #[.slice A n c] w fun e w' => e = .returned (.int .u32 (CrcPlain.crc l)) ∧ w = w' := by
  subst hn
  exact refSum_calls A c l w h1
theorem refSame_n {A B : Option Addr} {c d n m : Nat} {l k : List Int} {w : World} (h1 : Rd w .u8 A c l) (h2 : Rd w .u8 B d k) (hn : n = l.length) (hm : m = k.length) :
    Calls Try.prog 15 #[.slice A n c, .slice B m d] w fun e w' => e = .returned (.bool (decide (l = k))) ∧ Qt w w' := by
  subst hn hm
  exact refSame_calls A B c d l k w h1 h2

/-- A number's four bytes. -/
def low4 (n : Nat) : List Int := [(n : Int) % 256, (n : Int) / 256 % 256, (n : Int) / 65536 % 256, (n : Int) / 16777216 % 256]
theorem low4_wf (n : Nat) : ∀ x ∈ low4 n, InK .u8 x := by
  intro x hx
  refine InK.of_u8 ?_ ?_ <;> (simp only [low4, List.mem_cons, List.not_mem_nil, or_false] at hx; rcases hx with rfl | rfl | rfl | rfl <;> omega)

set_option maxHeartbeats 400000 in
theorem refLow_calls (n : Nat) (w : World) (hn : n < 4294967296) :
    Calls Try.prog 67 #[.int .u32 n] w (RetOwn w 5 .u8 (low4 n)) := by
  go_enter Try.func67, Try.ntmps67
  go_wp2
  go_ret
  refine RetOwn.of (Own.lit w _ _ _ _ (Nat.le_refl _) (by simp [low4]) (low4_wf n) _ rfl _ ?_) ((Up.refl _).alloc _)
  simp [low4]
  omega
end Go.Proofs.Ytehdigkjbobndaa

/- The program's check sum: the walks of crc.steps, told, Register.Add, Sum. -/
namespace Go.Proofs.Ytehdigkjbobndaa
open Go.RowKit
set_option maxRecDepth 100000

def tabZeros : Array Value := Array.replicate 256 (.int .u32 0)
/-- The table behind its first k entries. -/
def tabUpto (k : Nat) : Array Value := ((List.range k).map fun i => Value.int .u32 (CrcPlain.steps 8 i : Nat)).toArray ++ Array.replicate (256 - k) (.int .u32 0)
def tab : Array Value := tabUpto 256
theorem tab_zero : tabUpto 0 = tabZeros := by simp [tabUpto, tabZeros]
theorem tab_size (k : Nat) (hk : k ≤ 256) : (tabUpto k).size = 256 := by simp [tabUpto]; omega
theorem tab_succ (k : Nat) (hk : k < 256) : (tabUpto k).setIfInBounds k (.int .u32 (CrcPlain.steps 8 k : Nat)) = tabUpto (k + 1) := by
  apply Array.ext_getElem?
  intro i
  simp only [Array.getElem?_setIfInBounds, tabUpto, Array.getElem?_append, List.size_toArray, List.length_map, List.length_range, Array.getElem?_replicate, List.getElem?_toArray, List.getElem?_map, Array.size_append, Array.size_replicate]
  by_cases h : k = i
  · subst h
    simp [show k < k + (256 - k) by omega]
  · by_cases h1 : i < k
    · simp [h, h1, show i < k + 1 by omega]
    · simp [h, h1, show ¬ i < k + 1 by omega]
      congr 1
      exact propext (by omega)
theorem tab_at (i : Nat) (hi : i < 256) : tab[i]? = some (.int .u32 (CrcPlain.steps 8 i : Nat)) := by simp [tab, tabUpto, hi]
theorem tab_at' (k i : Nat) (hi : i < 256) : ∃ v, (tabUpto k)[i]? = some v := by
  by_cases hk : k ≤ 256
  · have := tab_size k hk
    exact ⟨_, Array.getElem?_eq_getElem (by omega)⟩
  · exact ⟨_, Array.getElem?_eq_getElem (by simp [tabUpto]; omega)⟩
theorem tab_info : (Try.prog.info? 136).bind (·.zero) = some (.agg tabZeros) := by kernel_rfl

theorem crc_and1 (x : Nat) (hx : x < 4294967296) : bits .and .u32 (x : Int) 1 = ((x % 2 : Nat) : Int) := by
  have := u32_and_nat x 1 hx (by decide)
  simpa using this
theorem crc_odd (x : Nat) (hx : x < 4294967296) (h : (bits .and .u32 (x : Int) 1 == 1) = true) : bits .xor .u32 ((x : Int) / 2) 2197175160 = (CrcPlain.step1 x : Nat) ∧ CrcPlain.step1 x < 4294967296 := by
  rw [crc_and1 x hx] at h
  have h1 : x % 2 = 1 := by simp only [beq_iff_eq] at h; omega
  refine ⟨?_, CrcPlain.step1_lt hx⟩
  have := u32_xor_cast (x / 2) CrcPlain.poly (by omega) CrcPlain.poly_lt
  unfold CrcPlain.step1
  rw [if_pos h1, ← this]
  rfl
theorem crc_even (x : Nat) (hx : x < 4294967296) (h : (bits .and .u32 (x : Int) 1 == 1) = false) : (x : Int) / 2 = (CrcPlain.step1 x : Nat) := by
  rw [crc_and1 x hx] at h
  have h1 : ¬ x % 2 = 1 := by simp only [beq_eq_false_iff_ne, ne_eq] at h; omega
  unfold CrcPlain.step1
  rw [if_neg h1]
  omega

set_option maxHeartbeats 400000 in
theorem crcSteps_calls (w : World) :
    Calls Try.prog 78 #[] w fun e w' => e = .returned (.agg tab) ∧ Up w w' := by
  go_enter Try.func78, Try.ntmps78
  go_wp2_with (refine wpl_alloc tab_info ?_)
  go_loopw [2, 3, 4, 5] (fun _ _ _ i wr => ∃ k : Nat, k ≤ 256 ∧ i = .int .i64 k ∧ Up w wr ∧ Blk wr w.heap.size 136 tabZeros ∧ Blk wr (w.heap.size + 1) 136 (tabUpto k)) (fun _ _ _ i _ => 256 - (intOf i).toNat)
  case atStart =>
    refine ⟨0, by omega, rfl, ((Up.refl _).alloc _).alloc _, (Blk.new _ _ _).alloc _, ?_⟩
    rw [tab_zero]
    have := Blk.new (w.alloc (.cells tabZeros 136)) 136 tabZeros
    simpa using this
  case round =>
    obtain ⟨k, hk, rfl, hu, hb0, hb1⟩ := hrel
    by_cases hlt : k < 256
    · go_wp2
      go_loop [3, 4, 10] (fun r _ i => ∃ j x : Nat, j ≤ 8 ∧ x < 4294967296 ∧ i = .int .i64 j ∧ r = .int .u32 x ∧ Hid (x = CrcPlain.steps j k)) (fun _ _ i => 8 - (intOf i).toNat)
      case atStart => exact ⟨0, k, by omega, by omega, rfl, rfl, by simp [Hid, CrcPlain.steps]⟩
      case round =>
        obtain ⟨j, x, hj, hx, rfl, rfl, HX⟩ := hrel
        by_cases hj8 : j < 8
        · go_wp2
          · obtain ⟨e1, e2⟩ := crc_odd x hx (by assumption)
            go_round
            case rel => exact ⟨j + 1, CrcPlain.step1 x, by omega, e2, by go_num, by rw [e1], Lib.hid (by rw [CrcPlain.steps_succ, HX.out])⟩
            case measure => simp [intOf]; omega
          · have e1 := crc_even x hx (by assumption)
            go_round
            case rel => exact ⟨j + 1, CrcPlain.step1 x, by omega, CrcPlain.step1_lt hx, by go_num, by rw [e1], Lib.hid (by rw [CrcPlain.steps_succ, HX.out])⟩
            case measure => simp [intOf]; omega
        · obtain rfl : j = 8 := by omega
          obtain ⟨v, hv⟩ := tab_at' k k hlt
          have hc := hb1.cell k
          rw [hv] at hc
          have hf := hb1.frozen k
          go_wp2
          go_roundw
          case rel =>
            refine ⟨k + 1, by omega, by go_num, hu.setCell (by simp) _, hb0.other _ _ (by simp), ?_⟩
            have := hb1.set k (.int .u32 x)
            rw [HX.out, tab_succ k hlt] at this
            rw [HX.out]
            exact this
          case measure => simp [intOf]; omega
    · obtain rfl : k = 256 := by omega
      go_wp2_with (first
        | (refine wpList_load_row rfl _ _ rfl (w.heap.size + 1) rfl _ _ _ _ hb1.out Try.underlying136 rfl (by kernel_rfl) ?_)
        | (refine wpList_store_row rfl _ _ _ rfl w.heap.size _ rfl rfl _ _ hb0.out (by kernel_rfl) (by kernel_rfl) (by kernel_rfl) ?_))
      refine bodyPost_ret (results_cell_row rfl _ _ w.heap.size _ _ _ _ rfl (hb0.row _).out Try.underlying136 rfl (by kernel_rfl)) rfl ⟨rfl, hu.setRow (Nat.le_refl _) _⟩

theorem crc_not (b : Nat) (hb : b < 4294967296) : bits .xor .u32 IntKind.u32.max (b : Int) = ((b ^^^ CrcPlain.ones : Nat) : Int) := by
  have := u32_xor_cast CrcPlain.ones b CrcPlain.ones_lt hb
  rw [Nat.xor_comm b, ← this]
  rfl
theorem crc_fold_lt (w : World) {A : Option Addr} {c : Nat} (ls : List (List Int)) (r k : Nat) (hl : RdL w .u8 A c ls) (hr : r < 4294967296) : CrcPlain.fold r (ls.take k).flatten < 4294967296 := by
  refine CrcPlain.fold_lt _ hr fun x hx => ?_
  obtain ⟨l, hl1, hl2⟩ := List.mem_flatten.1 hx
  obtain ⟨i, hi, rfl⟩ := List.mem_iff_getElem.1 (List.mem_of_mem_take hl1)
  obtain ⟨_, l', _, _, _, _, h3, H⟩ := hl.get i hi
  have := H.out
  rw [List.getD_eq_getElem?_getD, List.getElem?_eq_getElem hi] at this
  simp only [Option.getD_some] at this
  rw [this] at hl2
  exact h3.u8 x hl2
theorem crc_look (w : World) (g : Nat) (hg : Blk w g 136 tab) (R y : Nat) (hR : R < 4294967296) (hy : y < 256) :
    ∃ ix : Nat, ix < 256 ∧ bits .xor .u8 ((R : Int) % 256) (y : Int) = (ix : Int) ∧ w.cell? ⟨g, ix, none⟩ = some (.int .u32 (CrcPlain.steps 8 ix : Nat)) ∧
      bits .xor .u32 ((CrcPlain.steps 8 ix : Nat) : Int) ((R : Int) / 256) = ((CrcPlain.byte R y : Nat) : Int) := by
  have hix : (R % 256) ^^^ y < 256 := Nat.xor_lt_two_pow (n := 8) (Nat.mod_lt _ (by decide)) hy
  refine ⟨(R % 256) ^^^ y, hix, ?_, (hg.cell _).trans (tab_at _ hix), ?_⟩
  · have := u8_xor_nat (R % 256) y (Nat.mod_lt _ (by decide)) hy
    rw [← this]
    simp
  · have := u32_xor_cast (CrcPlain.steps 8 ((R % 256) ^^^ y)) (R / 256) (CrcPlain.steps_lt 8 (by omega)) (by omega)
    rw [CrcPlain.byte_table R y hy, ← this]
    simp

set_option maxHeartbeats 400000 in
theorem crcTold_calls (b g : Nat) (A : Option Addr) (c : Nat) (ls : List (List Int)) (w : World) (hb : b < 4294967296) (hg : Blk w g 136 tab) (hl : RdL w .u8 A c ls) :
    Calls Try.prog 79 #[.int .u32 b, .pointer (some ⟨g, 0, none⟩), .slice A ls.length c] w fun e w' => e = .returned (.int .u32 (CrcPlain.fold (b ^^^ CrcPlain.ones) ls.flatten ^^^ CrcPlain.ones : Nat)) ∧ w = w' := by
  have hlen := hl.len
  go_enter Try.func79, Try.ntmps79
  go_wp2
  go_loop [7, 9, 11, 16] (fun r _ _ i => ∃ k : Nat, k ≤ ls.length ∧ i = .int .i64 k ∧ r = .int .u32 (CrcPlain.fold (b ^^^ CrcPlain.ones) (ls.take k).flatten : Nat)) (fun _ _ _ i => ls.length - (intOf i).toNat)
  case atStart => exact ⟨0, by omega, rfl, by rw [crc_not b hb]; rfl⟩
  case round =>
    obtain ⟨k, hk, rfl, rfl⟩ := hrel
    by_cases hlt : k < ls.length
    · obtain ⟨ad, l, A', c', rfl, hcell, hrd, HL⟩ := hl.get k hlt
      have hll := hrd.len
      have HS := Lib.hid (show (ls.take (k + 1)).flatten = (ls.take k).flatten ++ l by rw [take_succ_getD ls k [] hlt, HL.out]; simp)
      have hR0 : CrcPlain.fold (b ^^^ CrcPlain.ones) (ls.take k).flatten < 4294967296 := crc_fold_lt w ls _ k hl (Nat.xor_lt_two_pow (n := 32) hb CrcPlain.ones_lt)
      generalize hF : CrcPlain.fold (b ^^^ CrcPlain.ones) (ls.take k).flatten = R0 at *
      have HF := Lib.hid hF
      clear hF
      go_wp2
      go_loop [7, 11, 22] (fun r _ i => ∃ j R : Nat, j ≤ l.length ∧ R < 4294967296 ∧ i = .int .i64 j ∧ r = .int .u32 R ∧ Hid (R = CrcPlain.fold R0 (l.take j))) (fun _ _ i => l.length - (intOf i).toNat)
      case atStart => exact ⟨0, R0, by omega, hR0, rfl, rfl, Lib.hid rfl⟩
      case round =>
        obtain ⟨j, R, hj, hR, rfl, rfl, HX⟩ := hrel
        by_cases hjl : j < l.length
        · obtain ⟨ad2, x, rfl, hc2, HX2, hx⟩ := hrd.get j hjl
          obtain ⟨hx0, hx1⟩ := hx.u8
          obtain ⟨y, hy⟩ := Int.eq_ofNat_of_zero_le hx0
          subst hy
          obtain ⟨ix, hix, e30, hct, e36⟩ := crc_look w g hg R y hR (by omega)
          go_wp2
          go_round
          case rel =>
            refine ⟨j + 1, CrcPlain.byte R y, by omega, CrcPlain.byte_lt hR (by omega), by go_num, rfl, Lib.hid ?_⟩
            rw [take_succ_getD l j 0 hjl, CrcPlain.fold_snoc, HX2.out, ← HX.out]
            rfl
          case measure => simp [intOf]; omega
        · obtain rfl : j = l.length := by omega
          go_wp2
          go_round
          case rel => exact ⟨k + 1, by omega, by go_num, by rw [HS.out, CrcPlain.fold_append, HF.out, HX.out, List.take_length]⟩
          case measure => simp [intOf]; omega
    · obtain rfl : k = ls.length := by omega
      rw [List.take_length]
      have e := crc_not _ (by have := crc_fold_lt w ls (b ^^^ CrcPlain.ones) ls.length hl (Nat.xor_lt_two_pow (n := 32) hb CrcPlain.ones_lt); rw [List.take_length] at this; exact this)
      go_wp2
      go_ret
      exact ⟨rfl, rfl⟩

/-- The register at a block: its bits, how many bytes. -/
def Reg (w : World) (g B n : Nat) : Prop := Blk w g 133 #[.int .u32 B, .int .i64 n]

set_option maxHeartbeats 400000 in
theorem regAdd_nil (A : Option Addr) (c n : Nat) (w : World) :
    Calls Try.prog 76 #[.pointer none, .slice A n c] w fun e w' => e = .returned (.pointer none) ∧ w = w' := by
  go_enter Try.func76, Try.ntmps76
  go_wp2
  go_ret
  exact ⟨rfl, rfl⟩

set_option maxHeartbeats 400000 in
theorem regAdd_calls (g B n : Nat) (A : Option Addr) (c : Nat) (ls : List (List Int)) (w : World) (hB : B < 4294967296) (hg : Reg w g B n) (hl : RdLF (fun b => b ≠ g) w .u8 A c ls) (hn : n + ls.flatten.length ≤ 9223372036854775807) :
    Calls Try.prog 76 #[.pointer (some ⟨g, 0, none⟩), .slice A ls.length c] w fun e w' => e = .returned (.pointer (some ⟨g, 0, none⟩)) ∧ UpX (fun b => b = g) w w' ∧ Reg w' g (CrcPlain.fold (B ^^^ CrcPlain.ones) ls.flatten ^^^ CrcPlain.ones) (n + ls.flatten.length) := by
  have hlen := hl.rd.len
  go_enter Try.func76, Try.ntmps76
  go_wp2_with fail
  refine (crcSteps_calls _).mono ?_
  rintro e w1 ⟨rfl, hu1⟩
  go_wp2_with (first
    | (refine wpl_alloc' tab_info ?_; intro w2 hu2 hb2 hs2)
    | (refine wpl_store_row w1.heap.size 136 tabZeros tab rfl rfl (by assumption) (by kernel_rfl) (by kernel_rfl) (by kernel_rfl) ?_
       intro w3 hu3 hb3 hs3
       have hne : g ≠ w1.heap.size := by have h1 := Blk.lt hg; have h2 := hu1.size; omega
       have hg3 : Blk w3 g 133 #[.int .u32 B, .int .i64 n] := (((show Blk w g _ _ from hg).up hu1).up hu2).upx hu3 hne
       have c0 : w3.cell? ⟨g, 0, none⟩ = some (.int .u32 B) := hg3.cell 0
       have f0 : w3.frozen? ⟨g, 0, none⟩ = false := hg3.frozen 0
       have hx3 : UpX (fun b => b = g) w w3 := (((hu1.trans hu2).x (fun b => b = g)).then_ hu3 (fun i hi e => by have h2 := hu1.size; omega))
       have hl3 : RdLF (fun b => b ≠ g) w3 .u8 A c ls := (((hl.low.up hu1).up hu2).upx hu3 (fun b hb e => by have := hb.2; have h2 := hu1.size; omega)).mono fun b hb => hb.1)
    | (go_at_call 79; refine (crcTold_calls _ _ _ _ _ _ hB (by assumption) hl3.rd).mono ?_; rintro e w4 ⟨rfl, rfl⟩))
  generalize hB2 : CrcPlain.fold (B ^^^ CrcPlain.ones) ls.flatten ^^^ CrcPlain.ones = B2 at *
  have HB := Lib.hid hB2
  clear hB2
  go_loopw [7, 22] (fun _ i wr => ∃ k : Nat, k ≤ ls.length ∧ i = .int .i64 k ∧ UpX (fun b => b = g) w wr ∧ Reg wr g B2 (n + (ls.take k).flatten.length) ∧ RdLF (fun b => b ≠ g) wr .u8 A c ls) (fun _ i _ => ls.length - (intOf i).toNat)
  case atStart =>
    have hx : UpX (fun b => b = g) w3 (w3.setCell ⟨g, 0, none⟩ (.int .u32 B2)) := UpX.one _ _ _ _
    exact ⟨0, by omega, rfl, hx3.trans hx, hg3.set 0 _, hl3.upx hx fun b hb e => hb e⟩
  case round =>
    obtain ⟨k, hk, rfl, hx, hr, hl⟩ := hrel
    by_cases hlt : k < ls.length
    · obtain ⟨ad, l, A', c', rfl, hcell, hrd, HL⟩ := hl.rd.get k hlt
      have hll := hrd.len
      have HS := Lib.hid (show (ls.take (k + 1)).flatten.length = (ls.take k).flatten.length + l.length by rw [take_succ_getD ls k [] hlt, HL.out]; simp)
      have hle : (ls.take (k + 1)).flatten.length ≤ ls.flatten.length := flatten_take_le ls (k + 1)
      rw [HS.out] at hle
      have c1 : wr.cell? ⟨g, 1, none⟩ = some (.int .i64 (n + (ls.take k).flatten.length : Nat)) := Blk.cell hr 1
      have f1 : wr.frozen? ⟨g, 1, none⟩ = false := Blk.frozen hr 1
      have hr0 : Reg wr g B2 (n + (ls.take k).flatten.length) := hr
      generalize hN : (ls.take k).flatten.length = N at *
      have HN := Lib.hid hN
      clear hN
      go_wp2
      go_roundw
      case rel =>
        have hxx : UpX (fun b => b = g) wr (wr.setCell ⟨g, 1, none⟩ (.int .i64 ((n : Int) + N + l.length))) := UpX.one _ _ _ _
        refine ⟨k + 1, by omega, by go_num, hx.trans hxx, ?_, hl.upx hxx fun b hb e => hb e⟩
        have := (show Blk wr g _ _ from hr).set 1 (.int .i64 ((n : Int) + N + l.length))
        rw [HS.out]
        have e : ((n : Int) + N + l.length) = ((n + (N + l.length) : Nat) : Int) := by omega
        rw [e] at this ⊢
        exact this
      case measure => simp [intOf]; omega
    · obtain rfl : k = ls.length := by omega
      rw [List.take_length] at hr
      go_wp2
      go_ret
      exact ⟨rfl, hx, by rw [HB.out]; exact hr⟩
end Go.Proofs.Ytehdigkjbobndaa

/- The program's check sum: Register.Sum, Len; crc.Sum. -/
namespace Go.Proofs.Ytehdigkjbobndaa
open Go.RowKit
set_option maxRecDepth 100000

set_option maxHeartbeats 400000 in
theorem crcValue_calls (b : Int) (w : World) : Calls Try.prog 80 #[.int .u32 b] w fun e w' => e = .returned (.int .u32 b) ∧ w = w' := by
  go_enter Try.func80, Try.ntmps80
  go_wp2
  go_ret
  exact ⟨rfl, rfl⟩

set_option maxHeartbeats 400000 in
theorem regSum_nil (w : World) : Calls Try.prog 77 #[.pointer none] w fun e w' => e = .returned (.int .u32 0) ∧ w = w' := by
  go_enter Try.func77, Try.ntmps77
  go_wp2
  go_ret
  exact ⟨rfl, rfl⟩

set_option maxHeartbeats 400000 in
theorem regSum_calls (g B n : Nat) (w : World) (hg : Reg w g B n) : Calls Try.prog 77 #[.pointer (some ⟨g, 0, none⟩)] w fun e w' => e = .returned (.int .u32 B) ∧ w = w' := by
  have c0 : w.cell? ⟨g, 0, none⟩ = some (.int .u32 B) := Blk.cell hg 0
  go_enter Try.func77, Try.ntmps77
  go_wp2_with (go_at_call 80; refine (crcValue_calls _ _).mono ?_; rintro e w' ⟨rfl, rfl⟩)
  go_ret
  exact ⟨rfl, rfl⟩

set_option maxHeartbeats 400000 in
theorem crcSum_calls (A : Option Addr) (c : Nat) (ls : List (List Int)) (w : World) (hl : RdL w .u8 A c ls) (hn : ls.flatten.length ≤ 9223372036854775807) :
    Calls Try.prog 70 #[.slice A ls.length c] w fun e w' => e = .returned (.int .u32 (CrcPlain.crc ls.flatten)) ∧ Up w w' := by
  have hu := (Up.refl w).alloc (.cells #[.int .u32 0, .int .i64 0] 133)
  have hl1 := ((hl.f.up hu).mono (G := fun b => b ≠ w.heap.size) fun b hb => by omega)
  have hr : Reg (w.alloc (.cells #[.int .u32 0, .int .i64 0] 133)) w.heap.size 0 0 := Blk.new _ _ _
  go_enter Try.func70, Try.ntmps70
  go_wp2_with (first
    | (go_at_call 76
       refine (regAdd_calls w.heap.size 0 0 A c ls _ (by omega) hr hl1 (by omega)).mono ?_
       rintro e w1 ⟨rfl, hx, hr1⟩)
    | (go_at_call 77; refine (regSum_calls _ _ _ _ hr1).mono ?_; rintro e w2 ⟨rfl, rfl⟩))
  go_ret
  refine ⟨?_, hu.thenx hx fun i hi e => by omega⟩
  simp [CrcPlain.crc]
theorem crcSum_n {A : Option Addr} {c n : Nat} {ls : List (List Int)} {w : World} (hl : RdL w .u8 A c ls) (hb : ls.flatten.length ≤ 9223372036854775807) (hn : n = ls.length) :
    Calls Try.prog 70 #[.slice A n c] w fun e w' => e = .returned (.int .u32 (CrcPlain.crc ls.flatten)) ∧ Up w w' := by
  subst hn
  exact crcSum_calls A c ls w hl hb
end Go.Proofs.Ytehdigkjbobndaa

/- Go's library on bytes: the walks of bytes.Equal, bytes.Clone, slices.Clone, slices.Grow, slices.Concat. -/
namespace Go.Proofs.Ytehdigkjbobndaa
open Go.RowKit
set_option maxRecDepth 100000

theorem run_string_rd {P : Program} {w : World} {A : Option Addr} {c : Nat} {l : List Int} (h : Rd w .u8 A c l) {src e dst : TypeId} (hs : P.underlying src = some (.slice e)) (he : P.underlying e = some (.int .u8)) (hd : P.underlying dst = some .string) :
    (convert src dst (.slice A l.length c)).run P w = .ok (.string (strOfNums l)) w := by
  cases A with
  | none =>
    have h0 := h.non rfl
    have h1 := h.le
    have hl : l = [] := List.eq_nil_of_length_eq_zero (by omega)
    subst hl
    exact run_convert_bytes_nil w src e hs he _ _ dst hd
  | some ad =>
    have hl : (loadCells ad l.length).run P w = .ok (l.map (Value.int .u8)).toArray w := by
      have := run_loadCells_list (P := P) w ad (l.map (Value.int .u8)) (fun j v hj => by
        obtain ⟨hjl, rfl⟩ := List.getElem?_eq_some_iff.1 hj
        simp only [List.length_map] at hjl
        rw [h.cell ad rfl j hjl]
        simp [List.getD, List.getElem?_eq_getElem hjl])
      simpa using this
    rw [run_convert_bytes_string w src dst e _ _ c hs he hd, run_bytesToString w _ _ c l hl, foldl_push_bytes]
    simp [strOfNums, ByteArray.empty, ByteArray.emptyWithCapacity]
    rfl
theorem strOfNums_inj {l m : List Int} (hl : ∀ x ∈ l, 0 ≤ x ∧ x < 256) (hm : ∀ x ∈ m, 0 ≤ x ∧ x < 256) (h : strOfNums l = strOfNums m) : l = m := by
  have h2 := congrArg (fun s : ByteArray => s.data.toList) h
  simp only [strOfNums_data] at h2
  have hlen : l.length = m.length := by simpa using congrArg List.length h2
  refine List.ext_getElem hlen fun i h1 h3 => ?_
  have h4 := congrArg (fun s => s[i]?) h2
  simp only [List.getElem?_map, List.getElem?_eq_getElem h1, List.getElem?_eq_getElem h3, Option.map_some, Option.some.injEq] at h4
  have a1 := hl _ (List.getElem_mem h1)
  have a2 := hm _ (List.getElem_mem h3)
  have h5 := congrArg UInt8.toNat h4
  simp only [UInt8.toNat_ofNat'] at h5
  omega

theorem infoU8 : (Try.prog.info? 5).map (fun i => (i.zero, i.size, i.bytes)) = some (some (.int .u8 0), 1, 1) := by kernel_rfl

/-- A conversion whose run is known. -/
theorem wpl_convert {P : Program} {w : World} {ops : Array Oper} {rest : List Oper} {a : Act} {Q : Exit → Act → World → Prop} {dst : Option Tmp} {ty : TypeId} {pos : String} {after : Array Edge}
    {src t : TypeId} {x : Operand} (vx v : Value) (hx : a.eval x = vx) (hr : (convert src t vx).run P w = .ok v w)
    (h : wpList P ops Q rest (a.put dst v) w) :
    wpList P ops Q ({ dst := dst, op := .convert src t x, type := ty, pos := pos, after := after, guard := none } :: rest) a w := by
  refine wpList_plain rfl fun K hK => ?_
  unfold Oper.wp
  simp [execOp, hx, hr, Result.andThen]
  exact hK _ _ h

set_option maxHeartbeats 400000 in
theorem bytesEqual_calls (A B : Option Addr) (c d : Nat) (l m : List Int) (w : World) (h1 : Rd w .u8 A c l) (h2 : Rd w .u8 B d m) :
    Calls Try.prog 64 #[.slice A l.length c, .slice B m.length d] w fun e w' => e = .returned (.bool (decide (l = m))) ∧ w = w' := by
  go_enter Try.func64, Try.ntmps64
  go_wp2_with (first
    | (refine wpl_convert (src := 22) (t := 9) (.slice A l.length c) _ rfl (run_string_rd h1 Try.underlying22 Try.underlying5 Try.underlying9) ?_)
    | (refine wpl_convert (src := 22) (t := 9) (.slice B m.length d) _ rfl (run_string_rd h2 Try.underlying22 Try.underlying5 Try.underlying9) ?_))
  go_ret
  refine ⟨?_, rfl⟩
  have e : ((strOfNums l).toList == (strOfNums m).toList) = decide (l = m) := by
    by_cases h : l = m
    · simp [h]
    · have : ¬ (strOfNums l).toList = (strOfNums m).toList := fun e => h (strOfNums_inj h1.u8 h2.u8 (by
        have := congrArg List.toArray e
        cases hs : strOfNums l; cases ht : strOfNums m
        rw [hs, ht] at this
        simpa [ByteArray.toList_eq] using this))
      simp [h, this]
  show Ending.returned (Value.bool _) = _
  rw [← e]

theorem run_eql_nil {P : Program} (w : World) {t e : TypeId} (A : Option Addr) (l c : Nat) (h : P.underlying t = some (.slice e)) : (binOp .eql t (.slice A l c) (.slice none 0 0)).run P w = .ok (.bool A.isNone) w := Lib.run_eql_slice_nil w t e A l c _ _ h

set_option maxHeartbeats 400000 in
theorem bytesClone_calls (A : Option Addr) (c : Nat) (l : List Int) (w : World) (h1 : Rd w .u8 A c l) (hb : l.length ≤ 140737488355328) :
    Calls Try.prog 53 #[.slice A l.length c] w (RetOwn w 5 .u8 l) := by
  have he := fun (w : World) (A : Option Addr) (n c : Nat) => run_eql_nil (P := Try.prog) w A n c Try.underlying22
  cases A with
  | none =>
    have h0 := h1.non rfl
    have h2 := h1.le
    have hl : l = [] := List.eq_nil_of_length_eq_zero (by omega)
    subst hl
    go_enter Try.func53, Try.ntmps53
    go_wp2
    go_ret
    exact RetOwn.of (Own.nil _ _ _ _) (Up.refl _)
  | some ad =>
    have ho : Own (w.alloc (.cells #[] 5)) w.heap.size 5 .u8 (.slice (some ⟨w.heap.size, 0, none⟩) 0 0) [] := Own.lit w _ _ _ [] (Nat.le_refl _) (by simp) (by simp) 0 rfl _ rfl
    have hu := (Up.refl w).alloc (.cells #[] 5)
    go_enter Try.func53, Try.ntmps53
    go_wp2_with (refine wpl_append (t := 22) w.heap.size 5 .u8 1 Try.underlying22 infoU8 _ _ rfl ho (some ad) _ c l rfl rfl (h1.up hu) (by simpa using hb) (by decide) (by simp) ?_; intro v w2 hv hu2 _)
    go_ret
    exact RetOwn.of (by simpa using hv) (hu.thenx hu2 fun i hi e => by have e' : w.heap.size = i := Option.some.inj e; omega)

set_option maxHeartbeats 400000 in
theorem cloneBytes_calls (A : Option Addr) (c : Nat) (l : List Int) (w : World) (h1 : Rd w .u8 A c l) (hb : l.length ≤ 140737488355328) :
    Calls Try.prog 71 #[.slice A l.length c] w (RetOwn w 5 .u8 l) := by
  have he := fun (w : World) (A : Option Addr) (n c : Nat) => run_eql_nil (P := Try.prog) w A n c Try.underlying22
  cases A with
  | none =>
    have h0 := h1.non rfl
    have h2 := h1.le
    have hl : l = [] := List.eq_nil_of_length_eq_zero (by omega)
    subst hl
    go_enter Try.func71, Try.ntmps71
    go_wp2
    go_ret
    exact RetOwn.of (Own.nil _ _ _ _) (Up.refl _)
  | some ad =>
    have ho : Own (w.alloc (.cells #[] 5)) w.heap.size 5 .u8 (.slice (some ⟨w.heap.size, 0, none⟩) 0 0) [] := Own.lit w _ _ _ [] (Nat.le_refl _) (by simp) (by simp) 0 rfl _ rfl
    have hu := (Up.refl w).alloc (.cells #[] 5)
    go_enter Try.func71, Try.ntmps71
    go_wp2_with (refine wpl_append (t := 22) w.heap.size 5 .u8 1 Try.underlying22 infoU8 _ _ rfl ho (some ad) _ c l rfl rfl (h1.up hu) (by simpa using hb) (by decide) (by simp) ?_; intro v w2 hv hu2 _)
    go_ret
    exact RetOwn.of (by simpa using hv) (hu.thenx hu2 fun i hi e => by have e' : w.heap.size = i := Option.some.inj e; omega)

set_option maxHeartbeats 400000 in
theorem growBytes_nil (n : Nat) (w : World) (hn : n ≤ 140737488355328) :
    Calls Try.prog 74 #[.slice none 0 0, .int .i64 n] w (RetOwn w 5 .u8 []) := by
  by_cases h0 : n = 0
  · subst h0
    go_enter Try.func74, Try.ntmps74
    go_wp2
    go_ret
    exact RetOwn.of (Own.nil _ _ _ _) (Up.refl _)
  · have hp : 0 < n := by omega
    obtain ⟨i, hi, hz, hsz, hby⟩ := info_parts infoU8
    have hr := fun (w : World) => Lib.run_append_nil_zeros (P := Try.prog) w 22 3 22 5 i (.int .u8 0) .i64 .i64 Try.underlying22 Try.underlying3 hi hz n hp (by omega) (by omega) (by rw [hby]; omega)
    have hn1 : (0 : Int) < (n : Int) := by omega
    go_enter Try.func74, Try.ntmps74
    go_wp2_with (refine Lib.wpList_append_run _ rfl _ _ 22 3 rfl (.slice none 0 0) (.int .i64 n) rfl rfl _ _ (hr _) ?_)
    go_ret
    have hcap : grownCap w n 0 5 ≤ maxLen := grownCap_le_maxLen w n 0 5 (by simp only [maxLen]; omega)
    have hge : n ≤ grownCap w n 0 5 := grownCap_ge w n 0 5
    refine RetOwn.of ⟨?_, by simp⟩ (((Up.refl w).alloc _).drew)
    have := World.ownsRow_made (base := w.heap.size) (size := 1) (e := 5) w (Builtin.zeroCells #[Value.int .u8 0] n ++ Builtin.zeroCells #[Value.int .u8 0] (grownCap w n 0 5 - n)) (grownCap w n 0 5) (Nat.le_refl _) hcap (by simp [size_zeroCells]; omega)
    exact this.drew

theorem run_lss0 (a b : Nat) : decide ((a : Int) + b < 0) = false := by simp; omega

set_option maxHeartbeats 1000000 in
theorem concatBytes_calls (A : Option Addr) (c : Nat) (ls : List (List Int)) (w : World) (hl : RdL w .u8 A c ls) (hb : ls.flatten.length ≤ 140737488355328) :
    Calls Try.prog 62 #[.slice A ls.length c] w (RetOwn w 5 .u8 ls.flatten) := by
  have hlen := hl.len
  have HB := Lib.hid hb
  clear hb
  go_enter Try.func62, Try.ntmps62
  go_wp2
  go_loop [3, 5, 11] (fun n _ i => ∃ k m : Nat, k ≤ ls.length ∧ i = .int .i64 k ∧ n = .int .i64 m ∧ Hid (m = (ls.take k).flatten.length)) (fun _ _ i => ls.length - (intOf i).toNat)
  case atStart => exact ⟨0, 0, by omega, rfl, rfl, Lib.hid rfl⟩
  case round =>
    obtain ⟨k, m, hk, rfl, rfl, HM⟩ := hrel
    by_cases hlt : k < ls.length
    · obtain ⟨ad, l, A', c', rfl, hcell, hrd, HL⟩ := hl.get k hlt
      have hll := hrd.len
      have HS := Lib.hid (show (ls.take (k + 1)).flatten.length = (ls.take k).flatten.length + l.length by rw [take_succ_getD ls k [] hlt, HL.out]; simp)
      have hle : m + l.length ≤ 140737488355328 := by rw [HM.out, ← HS.out]; exact Nat.le_trans (flatten_take_le ls (k + 1)) HB.out
      go_wp2
      go_round
      case rel => exact ⟨k + 1, m + l.length, by omega, by go_num, by go_num, Lib.hid (by rw [HS.out, HM.out])⟩
      case measure => simp [intOf]; omega
    · obtain rfl : k = ls.length := by omega
      rw [List.take_length] at HM
      have hm : m ≤ 140737488355328 := by rw [HM.out]; exact HB.out
      go_wp2_with fail
      refine (growBytes_nil m _ hm).mono ?_
      rintro e w1 ⟨v, rfl, hv, hu1⟩
      have hl1 := hl.up hu1
      go_wp2_with fail
      go_loopw [6, 8, 27] (fun v _ i wr => ∃ k : Nat, k ≤ ls.length ∧ i = .int .i64 k ∧ Own wr w.heap.size 5 .u8 v (ls.take k).flatten ∧ Up w wr) (fun _ _ i _ => ls.length - (intOf i).toNat)
      case atStart => exact ⟨0, by omega, rfl, hv, hu1⟩
      case round =>
        obtain ⟨k, hk, rfl, hv, hu⟩ := hrel
        by_cases hlt : k < ls.length
        · obtain ⟨ad, l, A', c', rfl, hcell, hrd, HL⟩ := (hl.up hu).get k hlt
          have hll := hrd.len
          have HS := Lib.hid (show (ls.take (k + 1)).flatten = (ls.take k).flatten ++ l by rw [take_succ_getD ls k [] hlt, HL.out]; simp)
          have HBB := Lib.hid (show ((ls.take k).flatten.length + l.length) * 1 ≤ 140737488355328 by
            have h1 := flatten_take_le ls (k + 1)
            rw [HS.out, List.length_append] at h1
            have := HB.out
            omega)
          go_wp2_with (refine wpl_append (t := 22) w.heap.size 5 .u8 1 Try.underlying22 infoU8 _ _ rfl hv A' _ c' l rfl rfl hrd HBB.out (by decide) hu.size ?_; intro v2 w2 hv2 hu2 _)
          go_roundw
          case rel => exact ⟨k + 1, by omega, by go_num, by rw [HS.out]; exact hv2, hu.thenx hu2 fun i hi e => by have := (hv.lt i e).1; omega⟩
          case measure => simp [intOf]; omega
        · obtain rfl : k = ls.length := by omega
          rw [List.take_length] at hv
          go_wp2
          go_ret
          exact RetOwn.of hv hu

theorem bytesEqual_n {A B : Option Addr} {c d n m : Nat} {l k : List Int} {w : World} (h1 : Rd w .u8 A c l) (h2 : Rd w .u8 B d k) (hn : n = l.length) (hm : m = k.length) :
    Calls Try.prog 64 #[.slice A n c, .slice B m d] w fun e w' => e = .returned (.bool (decide (l = k))) ∧ w = w' := by
  subst hn hm
  exact bytesEqual_calls A B c d l k w h1 h2
theorem bytesClone_n {A : Option Addr} {c n : Nat} {l : List Int} {w : World} (h1 : Rd w .u8 A c l) (hb : l.length ≤ 140737488355328) (hn : n = l.length) :
    Calls Try.prog 53 #[.slice A n c] w (RetOwn w 5 .u8 l) := by
  subst hn
  exact bytesClone_calls A c l w h1 hb
theorem cloneBytes_n {A : Option Addr} {c n : Nat} {l : List Int} {w : World} (h1 : Rd w .u8 A c l) (hb : l.length ≤ 140737488355328) (hn : n = l.length) :
    Calls Try.prog 71 #[.slice A n c] w (RetOwn w 5 .u8 l) := by
  subst hn
  exact cloneBytes_calls A c l w h1 hb
theorem concatBytes_n {A : Option Addr} {c n : Nat} {ls : List (List Int)} {w : World} (h1 : RdL w .u8 A c ls) (hb : ls.flatten.length ≤ 140737488355328) (hn : n = ls.length) :
    Calls Try.prog 62 #[.slice A n c] w (RetOwn w 5 .u8 ls.flatten) := by
  subst hn
  exact concatBytes_calls A c ls w h1 hb
end Go.Proofs.Ytehdigkjbobndaa

/- Marked bytes: the walks of crc.low, Mark, Holds, Turn. -/
namespace Go.Proofs.Ytehdigkjbobndaa
open Go.RowKit
set_option maxRecDepth 100000

set_option maxHeartbeats 400000 in
theorem crcLow_calls (n : Nat) (w : World) (hn : n < 4294967296) :
    Calls Try.prog 69 #[.int .u32 n] w (RetOwn w 5 .u8 (low4 n)) := by
  go_enter Try.func69, Try.ntmps69
  go_wp2
  go_ret
  refine RetOwn.of (Own.lit w _ _ _ _ (Nat.le_refl _) (by simp [low4]) (low4_wf n) _ rfl _ ?_) ((Up.refl _).alloc _)
  simp [low4]
  omega

def marked (l : List Int) : List Int := l ++ low4 (CrcPlain.crc l)

set_option maxHeartbeats 400000 in
theorem crcMark_calls (A : Option Addr) (c : Nat) (l : List Int) (w : World) (h1 : Rd w .u8 A c l) (hb : l.length ≤ 140737488355000) :
    Calls Try.prog 45 #[.slice A l.length c] w (RetOwn w 5 .u8 (marked l)) := by
  have hu0 := (Up.refl w).alloc (.cells #[.slice A l.length c] 22)
  have HC := Lib.hid (CrcPlain.crc_lt l h1.u8)
  go_enter Try.func45, Try.ntmps45
  go_wp2_with fail
  refine (crcSum_calls _ 1 [l] _ (RdL.one rfl ((Blk.new w _ _).cell 0) rfl (h1.up hu0)) (by simpa using by omega)).mono ?_
  rintro e w1 ⟨rfl, hu1⟩
  simp only [List.flatten_cons, List.flatten_nil, List.append_nil]
  go_wp2_with fail
  refine (crcLow_calls _ _ HC.out).mono ?_
  rintro e w2 ⟨v, rfl, hv, hu2⟩
  obtain ⟨B, d, rfl, hd⟩ := hv.rd
  have hu3 := (Up.refl w2).alloc (.cells #[.slice A l.length c, .slice B (low4 (CrcPlain.crc l)).length d] 22)
  have hU := hu0.trans (hu1.trans (hu2.trans hu3))
  have hvs : Vals (fun _ => True) (w2.alloc (.cells #[.slice A l.length c, .slice B (low4 (CrcPlain.crc l)).length d] 22)) .u8 [.slice A l.length c, .slice B (low4 (CrcPlain.crc l)).length d] [l, low4 (CrcPlain.crc l)] :=
    ((Vals.nil _ _ _).snoc (h1.up hU) rfl fun _ _ _ => trivial).snoc (hd.up hu3) rfl fun _ _ _ => trivial
  have hL := (RdLF.block (Blk.new w2 22 _).out trivial hvs (n := 2) rfl (by simp)).rd
  go_wp2_with fail
  refine (concatBytes_calls _ 2 [l, low4 (CrcPlain.crc l)] _ hL (by simp [low4]; omega)).mono ?_
  rintro e w3 ⟨v3, rfl, hv3, hu4⟩
  go_wp2
  go_ret
  simp only [List.flatten_cons, List.flatten_nil, List.append_nil] at hv3
  exact RetOwn.of (hv3.mono hU.size) (hU.trans hu4)

theorem crcMark_n {A : Option Addr} {c n : Nat} {l : List Int} {w : World} (h1 : Rd w .u8 A c l) (hb : l.length ≤ 140737488355000) (hn : n = l.length) :
    Calls Try.prog 45 #[.slice A n c] w (RetOwn w 5 .u8 (marked l)) := by
  subst hn
  exact crcMark_calls A c l w h1 hb

set_option maxHeartbeats 400000 in
theorem crcHolds_short (A : Option Addr) (c : Nat) (l : List Int) (w : World) (_ : Rd w .u8 A c l) (hs : l.length < 4) :
    Calls Try.prog 65 #[.slice A l.length c] w fun e w' => e = .returned (.bool false) ∧ Up w w' := by
  have hneg : decide (4 ≤ (l.length : Int)) = false := by simp; omega
  go_enter Try.func65, Try.ntmps65
  go_wp2
  go_quiet (fail)
  go_wp2
  go_ret
  exact ⟨rfl, (Up.refl _).drewN _⟩

def holds (l : List Int) : Bool := decide (4 ≤ l.length) && decide (l.drop (l.length - 4) = low4 (CrcPlain.crc (l.take (l.length - 4))))

set_option maxHeartbeats 1000000 in
theorem crcHolds_long (A : Option Addr) (c : Nat) (l : List Int) (w : World) (h1 : Rd w .u8 A c l) (hs : 4 ≤ l.length) (hb : l.length ≤ 140737488355328) :
    Calls Try.prog 65 #[.slice A l.length c] w fun e w' => e = .returned (.bool (holds l)) ∧ Up w w' := by
  obtain ⟨m, hm, hml, Hm⟩ : ∃ m : Nat, (l.length : Int) - 4 = (m : Int) ∧ (m : Int) ≤ (l.length : Int) ∧ Hid (m = l.length - 4) := ⟨l.length - 4, by omega, by omega, Lib.hid rfl⟩
  have hle := h1.le
  have hmc : (m : Int) ≤ (c : Int) := by omega
  have h2 : Rd w .u8 A c (l.take m) := h1.take m
  have h3 : Rd w .u8 (A.map (·.add m)) (c - m) (l.drop m) := by
    have := h1.drop_ m (by omega)
    rwa [if_neg (by omega)] at this
  have Hl2 := Lib.hid (show (l.take m).length = m by rw [List.length_take]; omega)
  have Hl3 := Lib.hid (show (l.drop m).length = l.length - m by rw [List.length_drop])
  have hu0 := ((Up.refl w).alloc (.cells #[.slice A m c] 22)).drew
  have HC := Lib.hid (CrcPlain.crc_lt (l.take m) h2.u8)
  have HR : RdL (w.alloc (.cells #[.slice A m c] 22)).drew .u8 (some ⟨w.heap.size, 0, none⟩) 1 [l.take m] := RdL.one rfl ((Blk.new w _ _).cell 0) Hl2.out.symm (h2.up hu0)
  go_enter Try.func65, Try.ntmps65
  go_wp2
  go_region_held3 (fun _ => True) (trivial) ((first
    | (go_at_call 70
       refine (crcSum_n HR (by have := Hl2.out; simp; omega) rfl).mono ?_
       rintro e w1 ⟨rfl, hu1⟩
       simp only [List.flatten_cons, List.flatten_nil, List.append_nil])
    | (go_at_call 69
       refine (crcLow_calls _ _ HC.out).mono ?_
       rintro e w2 ⟨v, rfl, hv, hu2⟩
       obtain ⟨B, d, rfl, hd⟩ := hv.rd)
    | (go_at_call 64
       refine (bytesEqual_n (h3.up (hu0.trans (hu1.trans hu2))) hd Hl3.out.symm rfl).mono ?_
       rintro e w3 ⟨rfl, rfl⟩)))
  go_wp2
  go_ret
  refine ⟨?_, hu0.trans (hu1.trans hu2)⟩
  show Ending.returned (.bool _) = .returned (.bool _)
  unfold holds
  rw [← Hm.out, decide_eq_true hs, Bool.true_and]

theorem crcHolds_n {A : Option Addr} {c n : Nat} {l : List Int} {w : World} (h1 : Rd w .u8 A c l) (hb : l.length ≤ 140737488355328) (hn : n = l.length) :
    Calls Try.prog 65 #[.slice A n c] w fun e w' => e = .returned (.bool (holds l)) ∧ Up w w' := by
  subst hn
  by_cases hs : 4 ≤ l.length
  · exact crcHolds_long A c l w h1 hs hb
  · refine (crcHolds_short A c l w h1 (by omega)).mono fun e w' ⟨he, hu⟩ => ⟨?_, hu⟩
    rw [he]
    unfold holds
    rw [decide_eq_false hs]
    rfl

/-- A byte turned. -/
def turned (l : List Int) (at_ by_ : Int) : List Int := if 0 ≤ at_ ∧ at_ < l.length then l.set at_.toNat (((l.getD at_.toNat 0).toNat ^^^ by_.toNat : Nat) : Int) else l

set_option maxHeartbeats 400000 in
theorem crcTurn_n {A : Option Addr} {c n : Nat} {l : List Int} {w : World} {i b : Int} (h1 : Rd w .u8 A c l) (hb : l.length ≤ 140737488355328) (hn : n = l.length) (hi : InK .i64 i) (hy : InK .u8 b) :
    Calls Try.prog 50 #[.slice A n c, .int .i64 i, .int .u8 b] w (RetOwn w 5 .u8 (turned l i b)) := by
  subst hn
  obtain ⟨hi1, hi2⟩ := hi.i64
  obtain ⟨hy1, hy2⟩ := hy.u8
  go_enter Try.func50, Try.ntmps50
  go_wp2_with fail
  refine (cloneBytes_n h1 hb rfl).mono ?_
  rintro e w1 ⟨v, rfl, hv, hu⟩
  by_cases h0 : 0 ≤ i
  · by_cases hl : i < (l.length : Int)
    · obtain ⟨k, rfl⟩ := Int.eq_ofNat_of_zero_le h0
      have hk : k < l.length := by omega
      obtain ⟨g, cap, rfl, hbg, hc, hf, hst⟩ := hv.store k hk
      have hx := hv.rd
      obtain ⟨hx1, hx2⟩ := (h1.range k hk).u8
      have HT := Lib.hid (show turned l k b = l.set k (((l.getD k 0).toNat ^^^ b.toNat : Nat) : Int) by unfold turned; rw [if_pos ⟨h0, hl⟩]; rfl)
      have hxor : bits .xor .u8 (l.getD k 0) b = (((l.getD k 0).toNat ^^^ b.toNat : Nat) : Int) := u8_xor _ b hx1 hx2 hy1 hy2
      have hw := hst (((l.getD k 0).toNat ^^^ b.toNat : Nat) : Int) (InK.of_u8 (by omega) (by
        have := Nat.xor_lt_two_pow (n := 8) (x := (l.getD k 0).toNat) (y := b.toNat) (by omega) (by omega)
        omega))
      generalize l.getD k 0 = x at *
      generalize ((x.toNat ^^^ b.toNat : Nat) : Int) = z at *
      go_wp2
      go_ret
      rw [HT.out]
      exact RetOwn.of hw (hu.setCell hbg _)
    · have hd : decide (i < (l.length : Int)) = false := by simpa using hl
      have HT := Lib.hid (show turned l i b = l by unfold turned; rw [if_neg (by omega)])
      obtain ⟨B, d, rfl, _⟩ := hv.rd
      go_wp2
      go_ret
      rw [HT.out]
      exact RetOwn.of hv hu
  · have hd : decide (0 ≤ i) = false := by simpa using h0
    have HT := Lib.hid (show turned l i b = l by unfold turned; rw [if_neg (by omega)])
    obtain ⟨B, d, rfl, _⟩ := hv.rd
    go_wp2
    go_ret
    rw [HT.out]
    exact RetOwn.of hv hu
end Go.Proofs.Ytehdigkjbobndaa

/- Marked bytes of which one is turned don't hold, but where nothing is turned. Plain lists and numbers. -/
namespace Go.Proofs.Ytehdigkjbobndaa
open CrcPlain

theorem step1_inj {a b : Nat} (ha : a < 2 ^ 32) (hb : b < 2 ^ 32) (h : step1 a = step1 b) : a = b := by
  have top : ∀ r, r < 2 ^ 32 → ((step1 r).testBit 31 = decide (r % 2 = 1)) := by
    intro r hr
    have hr2 : (r / 2).testBit 31 = false := Nat.testBit_lt_two_pow (by omega)
    unfold step1
    split
    · rename_i h1
      rw [Nat.testBit_xor, hr2, h1]
      decide
    · rename_i h1
      rw [hr2]
      simp [h1]
  have h31 := congrArg (fun r => r.testBit 31) h
  simp only [top a ha, top b hb] at h31
  unfold step1 at h
  by_cases h1 : a % 2 = 1
  · have h2 : b % 2 = 1 := by simpa [h1] using h31.symm
    rw [if_pos h1, if_pos h2] at h
    have := congrArg (fun r => r ^^^ poly) h
    simp only [Nat.xor_assoc, Nat.xor_self, Nat.xor_zero] at this
    omega
  · have h2 : ¬ b % 2 = 1 := by simpa [h1] using h31.symm
    rw [if_neg h1, if_neg h2] at h
    omega
theorem steps_inj (n : Nat) : ∀ {a b : Nat}, a < 2 ^ 32 → b < 2 ^ 32 → steps n a = steps n b → a = b := by
  induction n with
  | zero => intro a b _ _ h; exact h
  | succ n ih => intro a b ha hb h; exact step1_inj ha hb (ih (step1_lt ha) (step1_lt hb) h)
theorem xor_cancel {a b c : Nat} (h : a ^^^ c = b ^^^ c) : a = b := by
  have := congrArg (fun r => r ^^^ c) h
  simpa only [Nat.xor_assoc, Nat.xor_self, Nat.xor_zero] using this
theorem byte_inj {r s b : Nat} (hr : r < 2 ^ 32) (hs : s < 2 ^ 32) (hb : b < 256) (h : byte r b = byte s b) : r = s :=
  xor_cancel (steps_inj 8 (Nat.xor_lt_two_pow hr (by omega)) (Nat.xor_lt_two_pow hs (by omega)) h)
theorem byte_inj2 {r b c : Nat} (hr : r < 2 ^ 32) (hb : b < 256) (hc : c < 256) (h : byte r b = byte r c) : b = c := by
  have := steps_inj 8 (Nat.xor_lt_two_pow hr (by omega)) (Nat.xor_lt_two_pow hr (by omega)) h
  rw [Nat.xor_comm r, Nat.xor_comm r] at this
  exact xor_cancel this
theorem fold_inj (l : List Int) : ∀ {r s : Nat}, r < 2 ^ 32 → s < 2 ^ 32 → (∀ x ∈ l, 0 ≤ x ∧ x < 256) → fold r l = fold s l → r = s := by
  induction l with
  | nil => intro r s _ _ _ h; exact h
  | cons x l ih =>
    intro r s hr hs hl h
    have hx := hl x (by simp)
    have := ih (byte_lt hr (by omega)) (byte_lt hs (by omega)) (fun y hy => hl y (by simp [hy])) h
    exact byte_inj hr hs (by omega) this

theorem set_split {α : Type} (l : List α) (i : Nat) (hi : i < l.length) (y : α) : l.set i y = l.take i ++ y :: l.drop (i + 1) := by
  rw [List.set_eq_take_append_cons_drop, if_pos hi]
theorem self_split {α : Type} (l : List α) (i : Nat) (hi : i < l.length) : l = l.take i ++ l[i] :: l.drop (i + 1) := by simp

theorem crc_set (l : List Int) (hl : ∀ x ∈ l, 0 ≤ x ∧ x < 256) (i : Nat) (hi : i < l.length) (y : Int) (hy : 0 ≤ y ∧ y < 256) (h : crc (l.set i y) = crc l) : y = l[i] := by
  have h1 : fold ones (l.set i y) = fold ones l := xor_cancel h
  rw [set_split l i hi y] at h1
  conv at h1 => rhs; rw [self_split l i hi]
  rw [fold_append, fold_append] at h1
  have hp := fold_lt (l.take i) ones_lt fun x hx => hl x (List.mem_of_mem_take hx)
  have hx := hl _ (List.getElem_mem hi)
  have h2 := fold_inj (l.drop (i + 1)) (byte_lt hp (show y.toNat < 256 by omega)) (byte_lt hp (show l[i].toNat < 256 by omega)) (fun x hx => hl x (List.mem_of_mem_drop hx)) h1
  have := byte_inj2 hp (by omega) (by omega) h2
  omega

theorem low4_inj {a b : Nat} (ha : a < 2 ^ 32) (hb : b < 2 ^ 32) (h : low4 a = low4 b) : a = b := by
  simp only [low4, List.cons.injEq, and_true] at h
  omega

theorem xor_eq_self {x b : Nat} (h : x ^^^ b = x) : b = 0 := by
  have := congrArg (fun r => x ^^^ r) h
  simpa only [← Nat.xor_assoc, Nat.xor_self, Nat.zero_xor] using this

theorem marked_len (l : List Int) : (marked l).length = l.length + 4 := by unfold marked; rw [List.length_append]; rfl

theorem turned_len (l : List Int) (i b : Int) : (turned l i b).length = l.length := by
  unfold turned
  split <;> simp

theorem turned_u8 (l : List Int) (hl : ∀ x ∈ l, 0 ≤ x ∧ x < 256) (i b : Int) (hb : 0 ≤ b ∧ b < 256) : ∀ x ∈ turned l i b, 0 ≤ x ∧ x < 256 := by
  intro x hx
  unfold turned at hx
  split at hx
  · rename_i hi
    rcases List.mem_or_eq_of_mem_set hx with h | rfl
    · exact hl x h
    · have hk : i.toNat < l.length := by omega
      have hv := hl _ (List.getElem_mem hk)
      have hg : l.getD i.toNat 0 = l[i.toNat] := by simp [List.getD_eq_getElem?_getD, List.getElem?_eq_getElem hk]
      have := Nat.xor_lt_two_pow (n := 8) (x := (l.getD i.toNat 0).toNat) (y := b.toNat) (by rw [hg]; omega) (by omega)
      omega
  · exact hl x hx

theorem turned_back (l : List Int) (hl : ∀ x ∈ l, 0 ≤ x ∧ x < 256) (i b : Int) : turned (turned l i b) i b = l := by
  by_cases hi : 0 ≤ i ∧ i < l.length
  · have hk : i.toNat < l.length := by omega
    have hv := hl _ (List.getElem_mem hk)
    have h1 : turned l i b = l.set i.toNat (((l.getD i.toNat 0).toNat ^^^ b.toNat : Nat) : Int) := by unfold turned; rw [if_pos hi]
    have hg : l.getD i.toNat 0 = l[i.toNat] := by simp [List.getD_eq_getElem?_getD, List.getElem?_eq_getElem hk]
    rw [h1]
    unfold turned
    rw [if_pos (by simpa using hi), List.set_set]
    have h2 : ((l.set i.toNat (((l.getD i.toNat 0).toNat ^^^ b.toNat : Nat) : Int)).getD i.toNat 0) = (((l.getD i.toNat 0).toNat ^^^ b.toNat : Nat) : Int) := by simp [List.getD_eq_getElem?_getD, hk]
    rw [h2, Int.toNat_natCast, Nat.xor_assoc, Nat.xor_self, Nat.xor_zero, hg]
    rw [show ((l[i.toNat].toNat : Nat) : Int) = l[i.toNat] by omega]
    exact List.set_getElem_self hk
  · unfold turned
    rw [if_neg hi, if_neg hi]

theorem turned_zero (l : List Int) (hl : ∀ x ∈ l, 0 ≤ x ∧ x < 256) (i : Int) : turned l i 0 = l := by
  unfold turned
  split
  · rename_i hi
    have hk : i.toNat < l.length := by omega
    have hv := hl _ (List.getElem_mem hk)
    have hg : l.getD i.toNat 0 = l[i.toNat] := by simp [List.getD_eq_getElem?_getD, List.getElem?_eq_getElem hk]
    rw [Int.toNat_zero, Nat.xor_zero, hg, show ((l[i.toNat].toNat : Nat) : Int) = l[i.toNat] by omega]
    exact List.set_getElem_self hk
  · rfl

theorem low4_u8 (n : Nat) : ∀ x ∈ low4 n, 0 ≤ x ∧ x < 256 := fun x hx => (low4_wf n x hx).u8
theorem marked_u8 (l : List Int) (hl : ∀ x ∈ l, 0 ≤ x ∧ x < 256) : ∀ x ∈ marked l, 0 ≤ x ∧ x < 256 := fun x hx => by
  rcases List.mem_append.1 hx with h | h
  · exact hl x h
  · exact low4_u8 _ x h

theorem holds_iff (l s : List Int) (hs : s.length = 4) : holds (l ++ s) = decide (s = low4 (crc l)) := by
  unfold holds
  have h : (l ++ s).length = l.length + 4 := by rw [List.length_append, hs]
  rw [h, Nat.add_sub_cancel]
  simp

theorem holds_marked (l : List Int) : holds (marked l) = true := by
  unfold marked
  rw [holds_iff l _ rfl]
  simp

theorem holds_turned (l : List Int) (hl : ∀ x ∈ l, 0 ≤ x ∧ x < 256) (i b : Int) (hi : 0 ≤ i ∧ i < (marked l).length) (hb : 0 ≤ b ∧ b < 256) : holds (turned (marked l) i b) = (b == 0) := by
  by_cases h0 : b = 0
  · subst h0
    rw [turned_zero _ (marked_u8 l hl), holds_marked]
    rfl
  · have hb0 : ¬ b.toNat = 0 := by omega
    have hm := marked_len l
    have hk : i.toNat < (marked l).length := by omega
    have hgv := marked_u8 l hl _ (List.getElem_mem hk)
    have hg : (marked l).getD i.toNat 0 = (marked l)[i.toNat] := by simp [List.getD_eq_getElem?_getD, List.getElem?_eq_getElem hk]
    have ht : turned (marked l) i b = (marked l).set i.toNat (((marked l)[i.toNat].toNat ^^^ b.toNat : Nat) : Int) := by unfold turned; rw [if_pos hi, hg]
    have hz := Nat.xor_lt_two_pow (n := 8) (x := (marked l)[i.toNat].toNat) (y := b.toNat) (by omega) (by omega)
    have hne : (((marked l)[i.toNat].toNat ^^^ b.toNat : Nat) : Int) ≠ (marked l)[i.toNat] := fun e => hb0 (xor_eq_self (x := (marked l)[i.toNat].toNat) (by omega))
    rw [ht]
    have hfalse : (b == 0) = false := by simpa using h0
    rw [hfalse]
    generalize hzz : (((marked l)[i.toNat].toNat ^^^ b.toNat : Nat) : Int) = z at *
    have hz1 : 0 ≤ z ∧ z < 256 := by omega
    by_cases hil : i.toNat < l.length
    · have e : (marked l).set i.toNat z = l.set i.toNat z ++ low4 (crc l) := by unfold marked; rw [List.set_append_left _ _ hil]
      rw [e, holds_iff _ _ rfl]
      have hgl : (marked l)[i.toNat] = l[i.toNat] := List.getElem_append_left hil
      apply decide_eq_false
      intro hc
      have hset : ∀ x ∈ l.set i.toNat z, 0 ≤ x ∧ x < 256 := fun x hx => by
        rcases List.mem_or_eq_of_mem_set hx with h | rfl
        · exact hl x h
        · exact hz1
      have := crc_set l hl i.toNat hil z hz1 (low4_inj (crc_lt l hl) (crc_lt _ hset) hc).symm
      exact hne (this.trans hgl.symm)
    · have e : (marked l).set i.toNat z = l ++ (low4 (crc l)).set (i.toNat - l.length) z := by unfold marked; rw [List.set_append_right _ _ (by omega)]
      rw [e, holds_iff _ _ (by simp [low4])]
      apply decide_eq_false
      intro hc
      have hj : i.toNat - l.length < (low4 (crc l)).length := by simp [low4]; omega
      have h2 := congrArg (fun s => s[i.toNat - l.length]?) hc
      simp only [List.getElem?_set, hj, if_true, List.getElem?_eq_getElem hj, Option.some.injEq] at h2
      have hgl : (marked l)[i.toNat] = (low4 (crc l))[i.toNat - l.length] := List.getElem_append_right (by omega)
      exact hne (h2.trans hgl.symm)
end Go.Proofs.Ytehdigkjbobndaa
