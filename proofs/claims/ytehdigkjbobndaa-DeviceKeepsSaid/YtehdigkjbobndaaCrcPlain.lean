/- The check sum of bytes, as plain numbers: bit by bit, byte by byte, and by a table; a byte turned turns it. No program here. -/
namespace Go.Proofs.Ytehdigkjbobndaa.CrcPlain

def poly : Nat := 2197175160
def step1 (r : Nat) : Nat := if r % 2 = 1 then (r / 2) ^^^ poly else r / 2
def steps : Nat → Nat → Nat
  | 0, r => r
  | n + 1, r => steps n (step1 r)
def byte (r b : Nat) : Nat := steps 8 (r ^^^ b)
def fold (r : Nat) (l : List Int) : Nat := l.foldl (fun r b => byte r b.toNat) r
def ones : Nat := 4294967295
def crc (l : List Int) : Nat := fold ones l ^^^ ones

theorem poly_lt : poly < 2 ^ 32 := by decide

theorem step1_lt {r : Nat} (h : r < 2 ^ 32) : step1 r < 2 ^ 32 := by
  unfold step1
  split
  · exact Nat.xor_lt_two_pow (by omega) poly_lt
  · omega

theorem steps_lt (n : Nat) : ∀ {r : Nat}, r < 2 ^ 32 → steps n r < 2 ^ 32 := by
  induction n with
  | zero => intro r h; exact h
  | succ n ih => intro r h; exact ih (step1_lt h)

theorem byte_lt {r b : Nat} (h : r < 2 ^ 32) (hb : b < 256) : byte r b < 2 ^ 32 :=
  steps_lt 8 (Nat.xor_lt_two_pow h (by omega))

theorem steps_succ (n r : Nat) : steps (n + 1) r = step1 (steps n r) := by
  induction n generalizing r with
  | zero => rfl
  | succ n ih => exact ih (step1 r)

theorem xor_mod2 (a b : Nat) : (a ^^^ b) % 2 = (a % 2 + b % 2) % 2 := by
  have h := Nat.xor_mod_two_pow (a := a) (b := b) (n := 1)
  rw [show (2 : Nat) = 2 ^ 1 from rfl, h]
  rcases Nat.mod_two_eq_zero_or_one a with ha | ha <;> rcases Nat.mod_two_eq_zero_or_one b with hb | hb <;> simp [ha, hb]

theorem xor_div2 (a b : Nat) : (a ^^^ b) / 2 = (a / 2) ^^^ (b / 2) := Nat.xor_div_two

theorem step1_xor (a b : Nat) : step1 (a ^^^ b) = step1 a ^^^ step1 b := by
  unfold step1
  have hm := xor_mod2 a b
  rcases Nat.mod_two_eq_zero_or_one a with ha | ha <;> rcases Nat.mod_two_eq_zero_or_one b with hb | hb <;>
    simp only [ha, hb, xor_div2, if_true] at hm ⊢
  · rw [if_neg (by omega), if_neg (by omega), if_neg (by omega)]
  · rw [if_pos (by omega), if_neg (by omega)]
    exact Nat.xor_assoc _ _ _
  · rw [if_pos (by omega), if_neg (by omega)]
    rw [Nat.xor_assoc, Nat.xor_assoc, Nat.xor_comm poly]
  · rw [if_neg (by omega)]
    rw [Nat.xor_assoc, Nat.xor_comm poly, Nat.xor_assoc, Nat.xor_self, Nat.xor_zero]

theorem steps_xor (n : Nat) : ∀ a b, steps n (a ^^^ b) = steps n a ^^^ steps n b := by
  induction n with
  | zero => intro a b; rfl
  | succ n ih => intro a b; simp only [steps, step1_xor, ih]

theorem steps_shift (n : Nat) : ∀ z, steps n (2 ^ n * z) = z := by
  induction n with
  | zero => intro z; simp [steps]
  | succ n ih =>
    intro z
    have h : step1 (2 ^ (n + 1) * z) = 2 ^ n * z := by
      unfold step1
      rw [Nat.pow_succ, Nat.mul_comm (2 ^ n) 2, Nat.mul_assoc, if_neg (by omega)]
      omega
    simp only [steps, h, ih]

/-- The table's way: the low byte by the table, the others moved down. -/
theorem steps8_split (x : Nat) : steps 8 x = steps 8 (x % 256) ^^^ (x / 256) := by
  have hx : x = (x % 256) ^^^ (2 ^ 8 * (x / 256)) := by
    have h := Nat.two_pow_add_eq_or_of_lt (i := 8) (b := x % 256) (Nat.mod_lt _ (by decide)) (x / 256)
    have h2 : x = 2 ^ 8 * (x / 256) + x % 256 := by
      show x = 256 * (x / 256) + x % 256
      omega
    have h3 : (2 ^ 8 * (x / 256)) ||| (x % 256) = (x % 256) ^^^ (2 ^ 8 * (x / 256)) := by
      apply Nat.eq_of_testBit_eq
      intro i
      rw [Nat.testBit_or, Nat.testBit_xor]
      rcases Nat.lt_or_ge i 8 with hi | hi
      · have : (2 ^ 8 * (x / 256)).testBit i = false := by
          rw [Nat.testBit_two_pow_mul]
          simp
          omega
        rw [this]; simp
      · have : (x % 256).testBit i = false :=
          Nat.testBit_lt_two_pow (Nat.lt_of_lt_of_le (Nat.mod_lt x (by decide : 0 < 256)) (show 256 ≤ 2 ^ i from Nat.pow_le_pow_right (by decide : 2 > 0) hi))
        rw [this]; simp
    rw [← h3, ← h]
    exact h2
  conv => lhs; rw [hx]
  rw [steps_xor, steps_shift]

theorem byte_table (r b : Nat) (hb : b < 256) : byte r b = steps 8 ((r % 256) ^^^ b) ^^^ (r / 256) := by
  unfold byte
  rw [steps8_split]
  have h1 : (r ^^^ b) % 256 = (r % 256) ^^^ b := by
    have := Nat.xor_mod_two_pow (a := r) (b := b) (n := 8)
    rw [show (256 : Nat) = 2 ^ 8 from rfl, this, Nat.mod_eq_of_lt (a := b) hb]
  have h2 : (r ^^^ b) / 256 = r / 256 := by
    have := Nat.xor_div_two_pow (a := r) (b := b) (n := 8)
    rw [show (256 : Nat) = 2 ^ 8 from rfl, this, Nat.div_eq_of_lt (a := b) hb, Nat.xor_zero]
  rw [h1, h2]

/-- Bit by bit: behind k bits. -/
theorem bit_round (r b k : Nat) (_ : k < 8) :
    (if (r ^^^ (b / 2 ^ k)) % 2 = 1 then (r / 2) ^^^ poly else r / 2) ^^^ (b / 2 ^ (k + 1)) = step1 (r ^^^ (b / 2 ^ k)) := by
  unfold step1
  rw [xor_div2, Nat.pow_succ, ← Nat.div_div_eq_div_mul]
  split
  · rw [Nat.xor_assoc, Nat.xor_comm poly, Nat.xor_assoc]
  · rfl

theorem fold_append (r : Nat) (l m : List Int) : fold r (l ++ m) = fold (fold r l) m := by simp [fold, List.foldl_append]
theorem fold_nil (r : Nat) : fold r [] = r := rfl
theorem fold_snoc (r : Nat) (l : List Int) (x : Int) : fold r (l ++ [x]) = byte (fold r l) x.toNat := by simp [fold, List.foldl_append]

theorem fold_lt (l : List Int) : ∀ {r : Nat}, r < 2 ^ 32 → (∀ x ∈ l, 0 ≤ x ∧ x < 256) → fold r l < 2 ^ 32 := by
  induction l with
  | nil => intro r h _; exact h
  | cons x l ih =>
    intro r h hl
    have hx := hl x (by simp)
    exact ih (byte_lt h (by omega)) fun y hy => hl y (by simp [hy])

theorem ones_lt : ones < 2 ^ 32 := by decide
theorem crc_lt (l : List Int) (hl : ∀ x ∈ l, 0 ≤ x ∧ x < 256) : crc l < 2 ^ 32 := Nat.xor_lt_two_pow (fold_lt l ones_lt hl) ones_lt
theorem crc_xor (l : List Int) : crc l ^^^ ones = fold ones l := by unfold crc; rw [Nat.xor_assoc, Nat.xor_self, Nat.xor_zero]
theorem crc_append (l m : List Int) : fold (crc l ^^^ ones) m ^^^ ones = crc (l ++ m) := by rw [crc_xor, ← fold_append]; rfl
theorem crc_nil : crc [] = 0 := by decide

end Go.Proofs.Ytehdigkjbobndaa.CrcPlain
