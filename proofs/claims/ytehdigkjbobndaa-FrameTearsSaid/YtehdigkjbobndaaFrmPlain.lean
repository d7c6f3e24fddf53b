/- Frames, plain: their bytes, and the frame of bytes. -/
import Derived.Test.YtehdigkjbobndaaCrcM2
namespace Go.Proofs.Ytehdigkjbobndaa

def le2 (n : Int) : List Int := [n % 256, n / 256 % 256]
def le4 (n : Int) : List Int := [n % 256, n / 256 % 256, n / 65536 % 256, n / 16777216 % 256]
theorem le2_len (n : Int) : (le2 n).length = 2 := rfl
theorem le4_len (n : Int) : (le4 n).length = 4 := rfl
theorem le2_u8 (n : Int) : ∀ x ∈ le2 n, 0 ≤ x ∧ x < 256 := by
  intro x hx
  simp only [le2, List.mem_cons, List.not_mem_nil, or_false] at hx
  omega
theorem le4_u8 (n : Int) : ∀ x ∈ le4 n, 0 ≤ x ∧ x < 256 := by
  intro x hx
  simp only [le4, List.mem_cons, List.not_mem_nil, or_false] at hx
  omega

def frmCheck (k e p : Int) (b : List Int) : Int := if k < 1 ∨ 9 < k then 13 else if e < 0 ∨ 4294967295 < e ∨ p < 0 ∨ 2048 ≤ p then 10 else if 238 < b.length then 2 else 0
structure FrmOk (k e p : Int) (b : List Int) : Prop where
  k0 : 1 ≤ k
  k1 : k ≤ 9
  e0 : 0 ≤ e
  e1 : e ≤ 4294967295
  p0 : 0 ≤ p
  p1 : p < 2048
  lb : b.length ≤ 238
theorem frmCheck_iff (k e p : Int) (b : List Int) : frmCheck k e p b = 0 ↔ FrmOk k e p b := by
  unfold frmCheck
  constructor
  · intro h
    split at h
    · cases h
    · split at h
      · cases h
      · split at h
        · cases h
        · constructor <;> omega
  · intro ⟨h1, h2, h3, h4, h5, h6, h7⟩
    rw [if_neg (by omega), if_neg (by omega), if_neg (by omega)]
theorem frmCheck_ok {k e p : Int} {b : List Int} (h : FrmOk k e p b) : frmCheck k e p b = 0 := (frmCheck_iff k e p b).2 h

/-- A frame's bytes but for their sum. -/
def frmRaw (k e p : Int) (b : List Int) : List Int := 241 :: k :: (le4 e ++ (le2 p ++ (le2 b.length ++ (b ++ (List.replicate (238 - b.length) 0 ++ le4 e)))))
def frmEnc (k e p : Int) (b : List Int) : List Int := marked (frmRaw k e p b)
theorem frmRaw_len {k e p : Int} {b : List Int} (h : b.length ≤ 238) : (frmRaw k e p b).length = 252 := by
  simp only [frmRaw, List.length_cons, List.length_append, le4_len, le2_len, List.length_replicate]
  omega
theorem frmEnc_len {k e p : Int} {b : List Int} (h : b.length ≤ 238) : (frmEnc k e p b).length = 256 := by
  unfold frmEnc
  rw [marked_len, frmRaw_len h]
theorem frmRaw_u8 {k e p : Int} {b : List Int} (h0 : 0 ≤ k) (h1 : k < 256) (hb : ∀ x ∈ b, 0 ≤ x ∧ x < 256) : ∀ x ∈ frmRaw k e p b, 0 ≤ x ∧ x < 256 := by
  intro x hx
  simp only [frmRaw, List.mem_cons, List.mem_append, List.mem_replicate] at hx
  rcases hx with rfl | rfl | hx | hx | hx | hx | ⟨_, rfl⟩ | hx
  · omega
  · omega
  · exact le4_u8 _ x hx
  · exact le2_u8 _ x hx
  · exact le2_u8 _ x hx
  · exact hb x hx
  · omega
  · exact le4_u8 _ x hx

def num2 (l : List Int) : Int := l.getD 0 0 + 256 * l.getD 1 0
def num4 (l : List Int) : Int := l.getD 0 0 + 256 * l.getD 1 0 + 65536 * l.getD 2 0 + 16777216 * l.getD 3 0
/-- The frame of bytes. -/
def frmDec (l : List Int) : Int × Int × Int × List Int × Int :=
  if l.length ≠ 256 then (0, 0, 0, [], 2)
  else if holds l = false then (0, 0, 0, [], 5)
  else if 238 < num2 (l.drop 8) then (0, 0, 0, [], 3)
  else if frmCheck (l.getD 1 0) (num4 (l.drop 2)) (num2 (l.drop 6)) ((l.drop 10).take (num2 (l.drop 8)).toNat) = 0 ∧ frmEnc (l.getD 1 0) (num4 (l.drop 2)) (num2 (l.drop 6)) ((l.drop 10).take (num2 (l.drop 8)).toNat) = l then
    (l.getD 1 0, num4 (l.drop 2), num2 (l.drop 6), (l.drop 10).take (num2 (l.drop 8)).toNat, 0)
  else (0, 0, 0, [], 3)

theorem le4_of (a b c d : Int) (ha : 0 ≤ a ∧ a < 256) (hb : 0 ≤ b ∧ b < 256) (hc : 0 ≤ c ∧ c < 256) (hd : 0 ≤ d ∧ d < 256) : le4 (a + 256 * b + 65536 * c + 16777216 * d) = [a, b, c, d] := by
  unfold le4
  congr 1
  · omega
  congr 1
  · omega
  congr 1
  · omega
  congr 1
  omega
theorem le2_of (a b : Int) (ha : 0 ≤ a ∧ a < 256) (hb : 0 ≤ b ∧ b < 256) : le2 (a + 256 * b) = [a, b] := by
  unfold le2
  congr 1
  · omega
  congr 1
  omega
/-- What bytes of a page are. -/
structure Cut (l : List Int) (c0 c1 e0 e1 e2 e3 p0 p1 n0 n1 : Int) (r : List Int) : Prop where
  eq : l = c0 :: c1 :: e0 :: e1 :: e2 :: e3 :: p0 :: p1 :: n0 :: n1 :: r
  len : r.length = 246
theorem cut_of {l : List Int} (h : l.length = 256) : ∃ c0 c1 e0 e1 e2 e3 p0 p1 n0 n1 r, Cut l c0 c1 e0 e1 e2 e3 p0 p1 n0 n1 r := by
  match l, h with
  | c0 :: c1 :: e0 :: e1 :: e2 :: e3 :: p0 :: p1 :: n0 :: n1 :: r, h => exact ⟨c0, c1, e0, e1, e2, e3, p0, p1, n0, n1, r, rfl, by simpa using h⟩

theorem holds_cut {l : List Int} (hl : l.length = 256) : holds l = decide (l.drop 252 = low4 (CrcPlain.crc (l.take 252))) := by
  unfold holds
  rw [hl, decide_eq_true (by omega), Bool.true_and]
theorem marked_eq {m l : List Int} (hm : m.length = 252) (hl : l.length = 256) : marked m = l ↔ m = l.take 252 ∧ holds l = true := by
  rw [holds_cut hl]
  unfold marked
  constructor
  · rintro rfl
    rw [List.take_append_of_le_length (by omega), List.take_of_length_le (by omega), List.drop_append_of_le_length (by omega), List.drop_of_length_le (by omega)]
    simp
  · rintro ⟨rfl, h⟩
    rw [← of_decide_eq_true h, List.take_append_drop]

/-- The frame of its own bytes. -/
theorem frmDec_enc {k e p : Int} {b : List Int} (h : FrmOk k e p b) (_ : ∀ x ∈ b, 0 ≤ x ∧ x < 256) : frmDec (frmEnc k e p b) = (k, e, p, b, 0) := by
  obtain ⟨hk0, hk1, he0, he1, hp0, hp1, hl⟩ := h
  have hlen := frmEnc_len (k := k) (e := e) (p := p) hl
  have hh : holds (frmEnc k e p b) = true := holds_marked _
  have h1 : (frmEnc k e p b).getD 1 0 = k := rfl
  have h4 : num4 ((frmEnc k e p b).drop 2) = e := by
    show e % 256 + 256 * (e / 256 % 256) + 65536 * (e / 65536 % 256) + 16777216 * (e / 16777216 % 256) = e
    omega
  have h6 : num2 ((frmEnc k e p b).drop 6) = p := by
    show p % 256 + 256 * (p / 256 % 256) = p
    omega
  have h8 : num2 ((frmEnc k e p b).drop 8) = b.length := by
    show (b.length : Int) % 256 + 256 * ((b.length : Int) / 256 % 256) = b.length
    omega
  have h10 : (frmEnc k e p b).drop 10 = b ++ (List.replicate (238 - b.length) 0 ++ le4 e) ++ low4 (CrcPlain.crc (frmRaw k e p b)) := rfl
  unfold frmDec
  rw [if_neg (by omega), if_neg (by rw [hh]; decide), h1, h4, h6, h8, if_neg (by omega), h10, Int.toNat_natCast, List.append_assoc, List.take_append_of_le_length (by omega), List.take_of_length_le (by omega)]
  rw [if_pos ⟨frmCheck_ok ⟨hk0, hk1, he0, he1, hp0, hp1, hl⟩, rfl⟩]

theorem frmDec_cases (l : List Int) : (∃ e : Int, frmDec l = (0, 0, 0, [], e) ∧ e ≠ 0 ∧ (e = 2 ∨ e = 5 ∨ e = 3)) ∨ (∃ k e p b, frmDec l = (k, e, p, b, 0) ∧ FrmOk k e p b ∧ frmEnc k e p b = l) := by
  by_cases h1 : l.length ≠ 256
  · exact .inl ⟨2, by unfold frmDec; rw [if_pos h1], by omega, by omega⟩
  by_cases h2 : holds l = false
  · exact .inl ⟨5, by unfold frmDec; rw [if_neg h1, if_pos h2], by omega, by omega⟩
  by_cases h3 : 238 < num2 (l.drop 8)
  · exact .inl ⟨3, by unfold frmDec; rw [if_neg h1, if_neg h2, if_pos h3], by omega, by omega⟩
  by_cases h4 : frmCheck (l.getD 1 0) (num4 (l.drop 2)) (num2 (l.drop 6)) ((l.drop 10).take (num2 (l.drop 8)).toNat) = 0 ∧ frmEnc (l.getD 1 0) (num4 (l.drop 2)) (num2 (l.drop 6)) ((l.drop 10).take (num2 (l.drop 8)).toNat) = l
  · exact .inr ⟨_, _, _, _, by unfold frmDec; rw [if_neg h1, if_neg h2, if_neg h3, if_pos h4], (frmCheck_iff _ _ _ _).1 h4.1, h4.2⟩
  · exact .inl ⟨3, by unfold frmDec; rw [if_neg h1, if_neg h2, if_neg h3, if_neg h4], by omega, by omega⟩

/-- The document's decoding. -/
def refDec (l : List Int) : Int × Int × Int × List Int × Int :=
  if l.length ≠ 256 then (0, 0, 0, [], 2)
  else if l.drop 252 ≠ low4 (CrcPlain.crc (l.take 252)) then (0, 0, 0, [], 5)
  else if l.getD 0 0 ≠ 241 ∨ 238 < num2 (l.drop 8) ∨ l.getD 1 0 < 1 ∨ 9 < l.getD 1 0 ∨ 2047 < num2 (l.drop 6) then (0, 0, 0, [], 3)
  else if (l.drop (10 + (num2 (l.drop 8)).toNat)).take (238 - (num2 (l.drop 8)).toNat) ≠ List.replicate (238 - (num2 (l.drop 8)).toNat) 0 ∨ (l.drop 248).take 4 ≠ (l.drop 2).take 4 then (0, 0, 0, [], 3)
  else (l.getD 1 0, num4 (l.drop 2), num2 (l.drop 6), (l.drop 10).take (num2 (l.drop 8)).toNat, 0)

theorem rep_iff (z : List Int) (n : Nat) (hz : z.length = n) : z = List.replicate n 0 ↔ ∀ i, i < n → z.getD i 0 = 0 := by
  constructor
  · rintro rfl i hi
    simp [List.getD_eq_getElem?_getD, hi]
  · intro h
    refine List.ext_getElem (by simp [hz]) fun i h1 h2 => ?_
    have := h i (by omega)
    rw [List.getD_eq_getElem?_getD, List.getElem?_eq_getElem h1] at this
    simpa using this

theorem raw_iff {l : List Int} (hl : l.length = 256) (hu : ∀ x ∈ l, 0 ≤ x ∧ x < 256) (n : Nat) (hn : num2 (l.drop 8) = n) (hn2 : n ≤ 238) :
    frmRaw (l.getD 1 0) (num4 (l.drop 2)) (num2 (l.drop 6)) ((l.drop 10).take n) = l.take 252 ↔ l.getD 0 0 = 241 ∧ ¬ ((l.drop (10 + n)).take (238 - n) ≠ List.replicate (238 - n) 0 ∨ (l.drop 248).take 4 ≠ (l.drop 2).take 4) := by
  obtain ⟨c0, c1, e0, e1, e2, e3, p0, p1, n0, n1, r, hc, hr⟩ := cut_of hl
  have hd : ∀ i, l.drop (i + 10) = r.drop i := fun i => by rw [hc]; rfl
  have ht : l.take 252 = c0 :: c1 :: e0 :: e1 :: e2 :: e3 :: p0 :: p1 :: n0 :: n1 :: r.take 242 := by rw [hc]; rfl
  have hue0 := hu e0 (by rw [hc]; simp)
  have hue1 := hu e1 (by rw [hc]; simp)
  have hue2 := hu e2 (by rw [hc]; simp)
  have hue3 := hu e3 (by rw [hc]; simp)
  have hup0 := hu p0 (by rw [hc]; simp)
  have hup1 := hu p1 (by rw [hc]; simp)
  have hun0 := hu n0 (by rw [hc]; simp)
  have hun1 := hu n1 (by rw [hc]; simp)
  have v4 : num4 (l.drop 2) = e0 + 256 * e1 + 65536 * e2 + 16777216 * e3 := by rw [hc]; rfl
  have v6 : num2 (l.drop 6) = p0 + 256 * p1 := by rw [hc]; rfl
  have v8 : n0 + 256 * n1 = n := by rw [← hn, hc]; rfl
  have g0 : l.getD 0 0 = c0 := by rw [hc]; rfl
  have g1 : l.getD 1 0 = c1 := by rw [hc]; rfl
  have d2 : (l.drop 2).take 4 = [e0, e1, e2, e3] := by rw [hc]; rfl
  have d248 : (l.drop 248).take 4 = (r.drop 238).take 4 := by rw [hd 238]
  have hbl : (r.take n).length = n := by rw [List.length_take]; omega
  have hsplit : r.take 242 = r.take n ++ ((r.drop n).take (238 - n) ++ (r.drop 238).take 4) := by
    rw [show (r.drop n).take (238 - n) ++ (r.drop 238).take 4 = (r.drop n).take (242 - n) by
      rw [show 242 - n = (238 - n) + 4 by omega, List.take_add, List.drop_drop, show n + (238 - n) = 238 by omega]]
    rw [show 242 = n + (242 - n) by omega, List.take_add, show n + (242 - n) - n = 242 - n by omega]
  have hz : ((r.drop n).take (238 - n)).length = 238 - n := by rw [List.length_take, List.length_drop]; omega
  rw [ht, v4, v6, g0, g1, d2, d248, show l.drop 10 = r from hd 0, show l.drop (10 + n) = r.drop n by rw [Nat.add_comm]; exact hd n]
  unfold frmRaw
  rw [hbl, le4_of _ _ _ _ hue0 hue1 hue2 hue3, le2_of _ _ hup0 hup1, ← v8, le2_of _ _ hun0 hun1, hsplit]
  simp only [List.cons_append, List.nil_append, List.cons.injEq, true_and, List.append_cancel_left_eq]
  constructor
  · rintro ⟨hc0, h⟩
    have h2 := List.append_inj h (by rw [hz, List.length_replicate])
    refine ⟨hc0.symm, ?_⟩
    rintro (h3 | h3)
    · exact h3 h2.1.symm
    · exact h3 h2.2.symm
  · rintro ⟨hc0, h⟩
    refine ⟨hc0.symm, ?_⟩
    have h1 : (r.drop n).take (238 - n) = List.replicate (238 - n) 0 := Classical.byContradiction fun hne => h (.inl hne)
    have h2 : (r.drop 238).take 4 = [e0, e1, e2, e3] := Classical.byContradiction fun hne => h (.inr hne)
    rw [h1, h2]

theorem num2_range {l : List Int} (hl : 2 ≤ l.length) (hu : ∀ x ∈ l, 0 ≤ x ∧ x < 256) : 0 ≤ num2 l ∧ num2 l < 65536 := by
  match l, hl with
  | a :: b :: r, _ =>
    have h1 := hu a (by simp)
    have h2 := hu b (by simp)
    show 0 ≤ a + 256 * b ∧ a + 256 * b < 65536
    omega
theorem num4_range {l : List Int} (hl : 4 ≤ l.length) (hu : ∀ x ∈ l, 0 ≤ x ∧ x < 256) : 0 ≤ num4 l ∧ num4 l < 4294967296 := by
  match l, hl with
  | a :: b :: c :: d :: r, _ =>
    have h1 := hu a (by simp)
    have h2 := hu b (by simp)
    have h3 := hu c (by simp)
    have h4 := hu d (by simp)
    show 0 ≤ a + 256 * b + 65536 * c + 16777216 * d ∧ a + 256 * b + 65536 * c + 16777216 * d < 4294967296
    omega

/-- Both decodings agree. -/
theorem refDec_eq {l : List Int} (hu : ∀ x ∈ l, 0 ≤ x ∧ x < 256) : refDec l = frmDec l := by
  unfold refDec frmDec
  by_cases hl : l.length = 256
  · rw [if_neg (show ¬ l.length ≠ 256 by omega), if_neg (show ¬ l.length ≠ 256 by omega), holds_cut hl]
    by_cases hh : l.drop 252 = low4 (CrcPlain.crc (l.take 252))
    · have hut : ∀ n, ∀ x ∈ l.drop n, 0 ≤ x ∧ x < 256 := fun n x hx => hu x (List.mem_of_mem_drop hx)
      have r8 := num2_range (l := l.drop 8) (by rw [List.length_drop]; omega) (hut 8)
      have r6 := num2_range (l := l.drop 6) (by rw [List.length_drop]; omega) (hut 6)
      have r2 := num4_range (l := l.drop 2) (by rw [List.length_drop]; omega) (hut 2)
      rw [if_neg (show ¬ l.drop 252 ≠ low4 (CrcPlain.crc (l.take 252)) from fun h => h hh), decide_eq_true hh, if_neg (show ¬ true = false by decide)]
      by_cases h8 : 238 < num2 (l.drop 8)
      · rw [if_pos (.inr (.inl h8)), if_pos h8]
      · rw [if_neg h8]
        obtain ⟨n, hn⟩ := Int.eq_ofNat_of_zero_le r8.1
        have hn2 : n ≤ 238 := by omega
        have hri := raw_iff hl hu n hn hn2
        have htl : ((l.drop 10).take n).length = n := by rw [List.length_take, List.length_drop]; omega
        have hen : frmEnc (l.getD 1 0) (num4 (l.drop 2)) (num2 (l.drop 6)) ((l.drop 10).take n) = l ↔ l.getD 0 0 = 241 ∧ ¬ ((l.drop (10 + n)).take (238 - n) ≠ List.replicate (238 - n) 0 ∨ (l.drop 248).take 4 ≠ (l.drop 2).take 4) := by
          unfold frmEnc
          rw [marked_eq (frmRaw_len (by omega)) hl, hri, holds_cut hl, decide_eq_true hh]
          simp
        rw [show (num2 (l.drop 8)).toNat = n by omega]
        by_cases hA : l.getD 0 0 ≠ 241 ∨ 238 < num2 (l.drop 8) ∨ l.getD 1 0 < 1 ∨ 9 < l.getD 1 0 ∨ 2047 < num2 (l.drop 6)
        · rw [if_pos hA, if_neg]
          rintro ⟨hck, h⟩
          obtain ⟨k0, k1, _, _, _, p1, _⟩ := (frmCheck_iff _ _ _ _).1 hck
          have := (hen.1 h).1
          rcases hA with h | h | h | h | h
          · exact h this
          · omega
          · omega
          · omega
          · omega
        · rw [if_neg hA]
          have hA0 : l.getD 0 0 = 241 := Classical.byContradiction fun h => hA (.inl h)
          have hA1 : ¬ l.getD 1 0 < 1 := fun h => hA (.inr (.inr (.inl h)))
          have hA2 : ¬ 9 < l.getD 1 0 := fun h => hA (.inr (.inr (.inr (.inl h))))
          have hA3 : ¬ 2047 < num2 (l.drop 6) := fun h => hA (.inr (.inr (.inr (.inr h))))
          by_cases hx : (l.drop (10 + n)).take (238 - n) ≠ List.replicate (238 - n) 0 ∨ (l.drop 248).take 4 ≠ (l.drop 2).take 4
          · rw [if_pos hx, if_neg]
            rintro ⟨_, h⟩
            exact (hen.1 h).2 hx
          · rw [if_neg hx, if_pos]
            exact ⟨frmCheck_ok ⟨by omega, by omega, by omega, by omega, by omega, by omega, by omega⟩, hen.2 ⟨hA0, hx⟩⟩
    · rw [if_pos hh, decide_eq_false hh, if_pos rfl]
  · rw [if_pos hl, if_pos hl]

/-- A byte turned: no frame. -/
theorem frmDec_turned {k e p : Int} {b : List Int} (h : FrmOk k e p b) (hu : ∀ x ∈ b, 0 ≤ x ∧ x < 256) (i y : Int) (hi : 0 ≤ i ∧ i < 256) (hy : 0 ≤ y ∧ y < 256) (hne : y ≠ 0) : frmDec (turned (frmEnc k e p b) i y) = (0, 0, 0, [], 5) := by
  have hr := frmRaw_u8 (e := e) (p := p) (Int.le_trans (by decide) h.k0) (by have := h.k1; omega) hu
  have hl := frmEnc_len (k := k) (e := e) (p := p) h.lb
  have hh : holds (turned (frmEnc k e p b) i y) = (y == 0) := holds_turned _ hr i y ⟨hi.1, by rw [show (marked (frmRaw k e p b)).length = 256 from hl]; omega⟩ hy
  unfold frmDec
  rw [turned_len, hl, if_neg (by omega), if_pos]
  rw [hh]
  simpa using hne

theorem take_getD_eq {a b : List Int} {n i : Nat} (h : a.take n = b.take n) (hi : i < n) : a.getD i 0 = b.getD i 0 := by
  have := congrArg (fun l => l.getD i 0) h
  simp only [List.getD_eq_getElem?_getD, List.getElem?_take, if_pos hi] at this
  simpa [List.getD_eq_getElem?_getD] using this

/-- Torn pages. -/
theorem frmDec_torn {k e p k' e' : Int} {b b' : List Int} (hx : FrmOk k e p b) (hy : FrmOk k' e' p b') (he : e' = e + 2) (hu : ∀ x ∈ b, 0 ≤ x ∧ x < 256) (hu' : ∀ x ∈ b', 0 ≤ x ∧ x < 256) (t : Nat) (ht : t ≤ 256) :
    (frmDec ((frmEnc k' e' p b').take t ++ (frmEnc k e p b).drop t)).2.2.2.2 ≠ 0 ∨ frmDec ((frmEnc k' e' p b').take t ++ (frmEnc k e p b).drop t) = (k, e, p, b, 0) ∨ frmDec ((frmEnc k' e' p b').take t ++ (frmEnc k e p b).drop t) = (k', e', p, b', 0) := by
  have la := frmEnc_len (k := k) (e := e) (p := p) hx.lb
  have lb := frmEnc_len (k := k') (e := e') (p := p) hy.lb
  have da := frmDec_enc hx hu
  have db := frmDec_enc hy hu'
  have ra := frmRaw_len (k := k) (e := e) (p := p) hx.lb
  have rb := frmRaw_len (k := k') (e := e') (p := p) hy.lb
  have ua := frmRaw_u8 (e := e) (p := p) (Int.le_trans (by decide) hx.k0) (by have := hx.k1; omega) hu
  have ub := frmRaw_u8 (e := e') (p := p) (Int.le_trans (by decide) hy.k0) (by have := hy.k1; omega) hu'
  have ma : marked (frmRaw k e p b) = frmEnc k e p b := rfl
  have mb : marked (frmRaw k' e' p b') = frmEnc k' e' p b' := rfl
  have ta := (marked_eq ra la).1 ma
  have tb := (marked_eq rb lb).1 mb
  have ga : ∀ i, i < 252 → (frmEnc k e p b).getD i 0 = (frmRaw k e p b).getD i 0 := fun i hi => take_getD_eq (n := 252) (by rw [← ta.1, List.take_of_length_le (by omega)]) hi
  have gb : ∀ i, i < 252 → (frmEnc k' e' p b').getD i 0 = (frmRaw k' e' p b').getD i 0 := fun i hi => take_getD_eq (n := 252) (by rw [← tb.1, List.take_of_length_le (by omega)]) hi
  generalize hA : frmEnc k e p b = a at *
  generalize hB : frmEnc k' e' p b' = c at *
  generalize hD : c.take t ++ a.drop t = d
  have ld : d.length = 256 := by rw [← hD, List.length_append, List.length_take, List.length_drop]; omega
  have gd1 : ∀ i, i < t → i < 256 → d.getD i 0 = c.getD i 0 := by
    intro i hi h2
    rw [← hD]
    simp only [List.getD_eq_getElem?_getD]
    rw [List.getElem?_append_left (by rw [List.length_take]; omega), List.getElem?_take, if_pos hi]
  have gd2 : ∀ i, t ≤ i → i < 256 → d.getD i 0 = a.getD i 0 := by
    intro i hi h2
    rw [← hD]
    simp only [List.getD_eq_getElem?_getD]
    rw [List.getElem?_append_right (by rw [List.length_take]; omega), List.length_take, List.getElem?_drop, show t + (i - min t c.length) = i by omega]
  rcases frmDec_cases d with ⟨x, hx1, hx2, _⟩ | ⟨k2, e2, p2, b2, h1, h2, h3⟩
  · rw [hx1]; exact .inl hx2
  · right
    -- the epoch stands twice
    have hraw := frmRaw_len (k := k2) (e := e2) (p := p2) h2.lb
    have hm : d.take 252 = frmRaw k2 e2 p2 b2 ∧ holds d = true := by
      have := (marked_eq hraw ld).1 h3
      exact ⟨this.1.symm, this.2⟩
    have gd : ∀ i, i < 252 → d.getD i 0 = (frmRaw k2 e2 p2 b2).getD i 0 := fun i hi => take_getD_eq (n := 252) (by rw [hm.1, List.take_of_length_le (by omega)]) hi
    have tail : ∀ (k e p : Int) (b : List Int), b.length ≤ 238 → ∀ j, j < 4 → (frmRaw k e p b).getD (248 + j) 0 = (frmRaw k e p b).getD (2 + j) 0 := by
      intro k e p b hb j hj
      have hs : frmRaw k e p b = (241 :: k :: (le4 e ++ (le2 p ++ (le2 b.length ++ (b ++ List.replicate (238 - b.length) 0))))) ++ le4 e := by simp [frmRaw]
      have hl : (241 :: k :: (le4 e ++ (le2 p ++ (le2 b.length ++ (b ++ List.replicate (238 - b.length) 0))))).length = 248 := by
        simp only [List.length_cons, List.length_append, le4_len, le2_len, List.length_replicate]
        omega
      rw [show (frmRaw k e p b).getD (248 + j) 0 = (le4 e).getD j 0 by
        rw [hs, List.getD_eq_getElem?_getD, List.getElem?_append_right (by omega), hl, show 248 + j - 248 = j by omega, ← List.getD_eq_getElem?_getD]]
      match j, hj with
      | 0, _ => rfl
      | 1, _ => rfl
      | 2, _ => rfl
      | 3, _ => rfl
    have hd2 : ∀ j, j < 4 → d.getD (248 + j) 0 = d.getD (2 + j) 0 := fun j hj => by rw [gd _ (by omega), gd _ (by omega), tail _ _ _ _ h2.lb j hj]
    have ha2 : ∀ j, j < 4 → a.getD (248 + j) 0 = a.getD (2 + j) 0 := fun j hj => by rw [ga _ (by omega), ga _ (by omega), tail _ _ _ _ hx.lb j hj]
    have hc2 : ∀ j, j < 4 → c.getD (248 + j) 0 = c.getD (2 + j) 0 := fun j hj => by rw [gb _ (by omega), gb _ (by omega), tail _ _ _ _ hy.lb j hj]
    have a0 : a.getD 2 0 = e % 256 := by rw [ga 2 (by omega)]; rfl
    have c0 : c.getD 2 0 = e' % 256 := by rw [gb 2 (by omega)]; rfl
    have ud : ∀ x ∈ d, 0 ≤ x ∧ x < 256 := by
      intro x hx
      rw [← hD] at hx
      rcases List.mem_append.1 hx with hx | hx
      · exact marked_u8 _ ub x (by rw [mb]; exact List.mem_of_mem_take hx)
      · exact marked_u8 _ ua x (by rw [ma]; exact List.mem_of_mem_drop hx)
    by_cases t1 : t ≤ 2
    · -- only the kind may differ
      left
      have hds : d = a.set 1 (d.getD 1 0) := by
        refine List.ext_getElem (by simp [ld, la]) fun i i1 i2 => ?_
        have e1 : d[i] = d.getD i 0 := by simp [List.getD_eq_getElem?_getD, i1]
        rw [List.getElem_set, e1]
        by_cases hi : 1 = i
        · rw [if_pos hi, hi]
        · rw [if_neg hi]
          have : a[i]'(by omega) = a.getD i 0 := by simp [List.getD_eq_getElem?_getD, show i < a.length by omega]
          rw [this]
          by_cases h0 : t ≤ i
          · exact gd2 i h0 (by omega)
          · obtain rfl : i = 0 := by omega
            rw [gd1 0 (by omega) (by omega), gb 0 (by omega), ga 0 (by omega)]
            rfl
      generalize hz : d.getD 1 0 = z at *
      have hzr : 0 ≤ z ∧ z < 256 := by
        rw [← hz, List.getD_eq_getElem?_getD, List.getElem?_eq_getElem (show 1 < d.length by omega)]
        exact ud _ (List.getElem_mem _)
      have hset : d.take 252 = (frmRaw k e p b).set 1 z := by
        rw [hds, List.take_set, ← ta.1]
      have hsum : CrcPlain.crc ((frmRaw k e p b).set 1 z) = CrcPlain.crc (frmRaw k e p b) := by
        have e1 := of_decide_eq_true ((holds_cut ld).symm.trans hm.2)
        have e2 := of_decide_eq_true ((holds_cut la).symm.trans ta.2)
        have e3 : d.drop 252 = a.drop 252 := by
          rw [hds, List.drop_set_of_lt (by omega)]
        rw [hset, e3, e2, ← ta.1] at e1
        exact (low4_inj (CrcPlain.crc_lt _ ua) (CrcPlain.crc_lt _ fun x hx => ud x (by rw [← hset] at hx; exact List.mem_of_mem_take hx)) e1).symm
      have hk := crc_set _ ua 1 (by omega) z hzr hsum
      have : a.set 1 z = a := by
        rw [hk]
        refine List.ext_getElem (by simp) fun i i1 i2 => ?_
        rw [List.getElem_set]
        by_cases hi : 1 = i
        · subst hi
          rw [if_pos rfl]
          have h1 := ga 1 (by omega)
          rw [List.getD_eq_getElem?_getD, List.getElem?_eq_getElem i2, List.getD_eq_getElem?_getD, List.getElem?_eq_getElem (show 1 < (frmRaw k e p b).length by omega)] at h1
          exact h1.symm
        · rw [if_neg hi]
      rw [hds, this]
      exact da
    · by_cases t2 : t ≤ 248
      · exfalso
        have h0 := hd2 0 (by omega)
        rw [gd2 (248 + 0) (by omega) (by omega), ha2 0 (by omega), gd1 (2 + 0) (by omega) (by omega)] at h0
        have h0 : a.getD 2 0 = c.getD 2 0 := h0
        rw [a0, c0] at h0
        omega
      · right
        have hsame : d.take 252 = c.take 252 := by
          refine List.ext_getElem (by simp [ld, lb]) fun i i1 i2 => ?_
          have i3 : i < 252 := by rw [List.length_take] at i1; omega
          rw [List.getElem_take, List.getElem_take]
          have e1 : d[i]'(by omega) = d.getD i 0 := by simp [List.getD_eq_getElem?_getD, show i < d.length by omega]
          have e2 : c[i]'(by omega) = c.getD i 0 := by simp [List.getD_eq_getElem?_getD, show i < c.length by omega]
          rw [e1, e2]
          by_cases hi : i < t
          · exact gd1 i hi (by omega)
          · obtain ⟨j, rfl⟩ : ∃ j, i = 248 + j := ⟨i - 248, by omega⟩
            rw [hd2 j (by omega), hc2 j (by omega)]
            exact gd1 _ (by omega) (by omega)
        have e1 : marked (d.take 252) = d := (marked_eq (by rw [List.length_take]; omega) ld).2 ⟨rfl, hm.2⟩
        have e2 : marked (c.take 252) = c := (marked_eq (by rw [List.length_take]; omega) lb).2 ⟨rfl, tb.2⟩
        rw [← e1, hsame, e2]
        exact db
end Go.Proofs.Ytehdigkjbobndaa
