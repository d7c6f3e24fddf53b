/- Marked bytes of which one is turned don't hold, but where nothing is turned. Plain lists and numbers. -/
import Derived.Test.YtehdigkjbobndaaCrcMark
namespace Go.Proofs.Ytehdigkjbobndaa
open CrcPlain

theorem step1_inj {a b : Nat} (ha : a < 2 ^ 32) (hb : b < 2 ^ 32) (h : step1 a = step1 b) : a = b := by
  have top : ∀ r, r < 2 ^ 32 → ((step1 r).testBit 31 = decide (r % 2 = 1)) := by
    intro r hr
    have hr2 : (r / 2).testBit 31 = false := Nat.testBit_lt_two_pow (by omega)
    unfold step1
    split
    · rename_i h1
      rw [Nat.testBit_xor, hr2, h1]
      decide
    · rename_i h1
      rw [hr2]
      simp [h1]
  have h31 := congrArg (fun r => r.testBit 31) h
  simp only [top a ha, top b hb] at h31
  unfold step1 at h
  by_cases h1 : a % 2 = 1
  · have h2 : b % 2 = 1 := by simpa [h1] using h31.symm
    rw [if_pos h1, if_pos h2] at h
    have := congrArg (fun r => r ^^^ poly) h
    simp only [Nat.xor_assoc, Nat.xor_self, Nat.xor_zero] at this
    omega
  · have h2 : ¬ b % 2 = 1 := by simpa [h1] using h31.symm
    rw [if_neg h1, if_neg h2] at h
    omega
theorem steps_inj (n : Nat) : ∀ {a b : Nat}, a < 2 ^ 32 → b < 2 ^ 32 → steps n a = steps n b → a = b := by
  induction n with
  | zero => intro a b _ _ h; exact h
  | succ n ih => intro a b ha hb h; exact step1_inj ha hb (ih (step1_lt ha) (step1_lt hb) h)
theorem xor_cancel {a b c : Nat} (h : a ^^^ c = b ^^^ c) : a = b := by
  have := congrArg (fun r => r ^^^ c) h
  simpa only [Nat.xor_assoc, Nat.xor_self, Nat.xor_zero] using this
theorem byte_inj {r s b : Nat} (hr : r < 2 ^ 32) (hs : s < 2 ^ 32) (hb : b < 256) (h : byte r b = byte s b) : r = s :=
  xor_cancel (steps_inj 8 (Nat.xor_lt_two_pow hr (by omega)) (Nat.xor_lt_two_pow hs (by omega)) h)
theorem byte_inj2 {r b c : Nat} (hr : r < 2 ^ 32) (hb : b < 256) (hc : c < 256) (h : byte r b = byte r c) : b = c := by
  have := steps_inj 8 (Nat.xor_lt_two_pow hr (by omega)) (Nat.xor_lt_two_pow hr (by omega)) h
  rw [Nat.xor_comm r, Nat.xor_comm r] at this
  exact xor_cancel this
theorem fold_inj (l : List Int) : ∀ {r s : Nat}, r < 2 ^ 32 → s < 2 ^ 32 → (∀ x ∈ l, 0 ≤ x ∧ x < 256) → fold r l = fold s l → r = s := by
  induction l with
  | nil => intro r s _ _ _ h; exact h
  | cons x l ih =>
    intro r s hr hs hl h
    have hx := hl x (by simp)
    have := ih (byte_lt hr (by omega)) (byte_lt hs (by omega)) (fun y hy => hl y (by simp [hy])) h
    exact byte_inj hr hs (by omega) this

theorem set_split {α : Type} (l : List α) (i : Nat) (hi : i < l.length) (y : α) : l.set i y = l.take i ++ y :: l.drop (i + 1) := by
  rw [List.set_eq_take_append_cons_drop, if_pos hi]
theorem self_split {α : Type} (l : List α) (i : Nat) (hi : i < l.length) : l = l.take i ++ l[i] :: l.drop (i + 1) := by simp

theorem crc_set (l : List Int) (hl : ∀ x ∈ l, 0 ≤ x ∧ x < 256) (i : Nat) (hi : i < l.length) (y : Int) (hy : 0 ≤ y ∧ y < 256) (h : crc (l.set i y) = crc l) : y = l[i] := by
  have h1 : fold ones (l.set i y) = fold ones l := xor_cancel h
  rw [set_split l i hi y] at h1
  conv at h1 => rhs; rw [self_split l i hi]
  rw [fold_append, fold_append] at h1
  have hp := fold_lt (l.take i) ones_lt fun x hx => hl x (List.mem_of_mem_take hx)
  have hx := hl _ (List.getElem_mem hi)
  have h2 := fold_inj (l.drop (i + 1)) (byte_lt hp (show y.toNat < 256 by omega)) (byte_lt hp (show l[i].toNat < 256 by omega)) (fun x hx => hl x (List.mem_of_mem_drop hx)) h1
  have := byte_inj2 hp (by omega) (by omega) h2
  omega

theorem low4_inj {a b : Nat} (ha : a < 2 ^ 32) (hb : b < 2 ^ 32) (h : low4 a = low4 b) : a = b := by
  simp only [low4, List.cons.injEq, and_true] at h
  omega

theorem xor_eq_self {x b : Nat} (h : x ^^^ b = x) : b = 0 := by
  have := congrArg (fun r => x ^^^ r) h
  simpa only [← Nat.xor_assoc, Nat.xor_self, Nat.zero_xor] using this

theorem marked_len (l : List Int) : (marked l).length = l.length + 4 := by unfold marked; rw [List.length_append]; rfl

theorem turned_len (l : List Int) (i b : Int) : (turned l i b).length = l.length := by
  unfold turned
  split <;> simp

theorem turned_u8 (l : List Int) (hl : ∀ x ∈ l, 0 ≤ x ∧ x < 256) (i b : Int) (hb : 0 ≤ b ∧ b < 256) : ∀ x ∈ turned l i b, 0 ≤ x ∧ x < 256 := by
  intro x hx
  unfold turned at hx
  split at hx
  · rename_i hi
    rcases List.mem_or_eq_of_mem_set hx with h | rfl
    · exact hl x h
    · have hk : i.toNat < l.length := by omega
      have hv := hl _ (List.getElem_mem hk)
      have hg : l.getD i.toNat 0 = l[i.toNat] := by simp [List.getD_eq_getElem?_getD, List.getElem?_eq_getElem hk]
      have := Nat.xor_lt_two_pow (n := 8) (x := (l.getD i.toNat 0).toNat) (y := b.toNat) (by rw [hg]; omega) (by omega)
      omega
  · exact hl x hx

theorem turned_back (l : List Int) (hl : ∀ x ∈ l, 0 ≤ x ∧ x < 256) (i b : Int) : turned (turned l i b) i b = l := by
  by_cases hi : 0 ≤ i ∧ i < l.length
  · have hk : i.toNat < l.length := by omega
    have hv := hl _ (List.getElem_mem hk)
    have h1 : turned l i b = l.set i.toNat (((l.getD i.toNat 0).toNat ^^^ b.toNat : Nat) : Int) := by unfold turned; rw [if_pos hi]
    have hg : l.getD i.toNat 0 = l[i.toNat] := by simp [List.getD_eq_getElem?_getD, List.getElem?_eq_getElem hk]
    rw [h1]
    unfold turned
    rw [if_pos (by simpa using hi), List.set_set]
    have h2 : ((l.set i.toNat (((l.getD i.toNat 0).toNat ^^^ b.toNat : Nat) : Int)).getD i.toNat 0) = (((l.getD i.toNat 0).toNat ^^^ b.toNat : Nat) : Int) := by simp [List.getD_eq_getElem?_getD, hk]
    rw [h2, Int.toNat_natCast, Nat.xor_assoc, Nat.xor_self, Nat.xor_zero, hg]
    rw [show ((l[i.toNat].toNat : Nat) : Int) = l[i.toNat] by omega]
    exact List.set_getElem_self hk
  · unfold turned
    rw [if_neg hi, if_neg hi]

theorem turned_zero (l : List Int) (hl : ∀ x ∈ l, 0 ≤ x ∧ x < 256) (i : Int) : turned l i 0 = l := by
  unfold turned
  split
  · rename_i hi
    have hk : i.toNat < l.length := by omega
    have hv := hl _ (List.getElem_mem hk)
    have hg : l.getD i.toNat 0 = l[i.toNat] := by simp [List.getD_eq_getElem?_getD, List.getElem?_eq_getElem hk]
    rw [Int.toNat_zero, Nat.xor_zero, hg, show ((l[i.toNat].toNat : Nat) : Int) = l[i.toNat] by omega]
    exact List.set_getElem_self hk
  · rfl

theorem low4_u8 (n : Nat) : ∀ x ∈ low4 n, 0 ≤ x ∧ x < 256 := fun x hx => (low4_wf n x hx).u8
theorem marked_u8 (l : List Int) (hl : ∀ x ∈ l, 0 ≤ x ∧ x < 256) : ∀ x ∈ marked l, 0 ≤ x ∧ x < 256 := fun x hx => by
  rcases List.mem_append.1 hx with h | h
  · exact hl x h
  · exact low4_u8 _ x h

theorem holds_iff (l s : List Int) (hs : s.length = 4) : holds (l ++ s) = decide (s = low4 (crc l)) := by
  unfold holds
  have h : (l ++ s).length = l.length + 4 := by rw [List.length_append, hs]
  rw [h, Nat.add_sub_cancel]
  simp

theorem holds_marked (l : List Int) : holds (marked l) = true := by
  unfold marked
  rw [holds_iff l _ rfl]
  simp

theorem holds_turned (l : List Int) (hl : ∀ x ∈ l, 0 ≤ x ∧ x < 256) (i b : Int) (hi : 0 ≤ i ∧ i < (marked l).length) (hb : 0 ≤ b ∧ b < 256) : holds (turned (marked l) i b) = (b == 0) := by
  by_cases h0 : b = 0
  · subst h0
    rw [turned_zero _ (marked_u8 l hl), holds_marked]
    rfl
  · have hb0 : ¬ b.toNat = 0 := by omega
    have hm := marked_len l
    have hk : i.toNat < (marked l).length := by omega
    have hgv := marked_u8 l hl _ (List.getElem_mem hk)
    have hg : (marked l).getD i.toNat 0 = (marked l)[i.toNat] := by simp [List.getD_eq_getElem?_getD, List.getElem?_eq_getElem hk]
    have ht : turned (marked l) i b = (marked l).set i.toNat (((marked l)[i.toNat].toNat ^^^ b.toNat : Nat) : Int) := by unfold turned; rw [if_pos hi, hg]
    have hz := Nat.xor_lt_two_pow (n := 8) (x := (marked l)[i.toNat].toNat) (y := b.toNat) (by omega) (by omega)
    have hne : (((marked l)[i.toNat].toNat ^^^ b.toNat : Nat) : Int) ≠ (marked l)[i.toNat] := fun e => hb0 (xor_eq_self (x := (marked l)[i.toNat].toNat) (by omega))
    rw [ht]
    have hfalse : (b == 0) = false := by simpa using h0
    rw [hfalse]
    generalize hzz : (((marked l)[i.toNat].toNat ^^^ b.toNat : Nat) : Int) = z at *
    have hz1 : 0 ≤ z ∧ z < 256 := by omega
    by_cases hil : i.toNat < l.length
    · have e : (marked l).set i.toNat z = l.set i.toNat z ++ low4 (crc l) := by unfold marked; rw [List.set_append_left _ _ hil]
      rw [e, holds_iff _ _ rfl]
      have hgl : (marked l)[i.toNat] = l[i.toNat] := List.getElem_append_left hil
      apply decide_eq_false
      intro hc
      have hset : ∀ x ∈ l.set i.toNat z, 0 ≤ x ∧ x < 256 := fun x hx => by
        rcases List.mem_or_eq_of_mem_set hx with h | rfl
        · exact hl x h
        · exact hz1
      have := crc_set l hl i.toNat hil z hz1 (low4_inj (crc_lt l hl) (crc_lt _ hset) hc).symm
      exact hne (this.trans hgl.symm)
    · have e : (marked l).set i.toNat z = l ++ (low4 (crc l)).set (i.toNat - l.length) z := by unfold marked; rw [List.set_append_right _ _ (by omega)]
      rw [e, holds_iff _ _ (by simp [low4])]
      apply decide_eq_false
      intro hc
      have hj : i.toNat - l.length < (low4 (crc l)).length := by simp [low4]; omega
      have h2 := congrArg (fun s => s[i.toNat - l.length]?) hc
      simp only [List.getElem?_set, hj, if_true, List.getElem?_eq_getElem hj, Option.some.injEq] at h2
      have hgl : (marked l)[i.toNat] = (low4 (crc l))[i.toNat - l.length] := List.getElem_append_right (by omega)
      exact hne (h2.trans hgl.symm)
end Go.Proofs.Ytehdigkjbobndaa
