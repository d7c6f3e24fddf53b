/- Several texts in one: VarPlain, VarPut, VarRead, VarBits, VarGet, VarRef, VarKnown. -/
import Derived.Test.YtneliajeokajbaaBaseM
import Derived.Laws.BitsAllLaws
import Derived.Test.YtneliajeokajbaaLib1
import Derived.WalkMore
import Derived.Deep.LoopGhost
import Derived.Test.YtneliajeokajbaaCrcM
/- Numbers' bytes and back: plain. -/
namespace Go.Proofs.Ytneliajeokajbaa
open Go.RowKit
set_option maxRecDepth 100000

def vput (n : Nat) : List Int := if n < 128 then [(n : Int)] else ((n % 128 + 128 : Nat) : Int) :: vput (n / 128)
termination_by n
decreasing_by omega

theorem vput_low (n : Nat) (h : n < 128) : vput n = [(n : Int)] := by rw [vput, if_pos h]
theorem vput_high (n : Nat) (h : 128 ≤ n) : vput n = ((n % 128 + 128 : Nat) : Int) :: vput (n / 128) := by rw [vput, if_neg (by omega)]
theorem vput_wf (n : Nat) : ∀ x ∈ vput n, InK .u8 x := by
  induction n using Nat.strongRecOn with
  | _ n ih =>
    intro x hx
    by_cases h : n < 128
    · rw [vput_low n h] at hx
      simp only [List.mem_cons, List.not_mem_nil, or_false] at hx
      exact InK.of_u8 (by omega) (by omega)
    · rw [vput_high n (by omega)] at hx
      rcases List.mem_cons.1 hx with rfl | hx
      · exact InK.of_u8 (by omega) (by omega)
      · exact ih (n / 128) (by omega) x hx
theorem vput_len (k n : Nat) (h : n < 128 ^ k) (hk : 1 ≤ k) : (vput n).length ≤ k := by
  induction k generalizing n with
  | zero => omega
  | succ k ih =>
    by_cases h1 : n < 128
    · rw [vput_low n h1]; simp
    · rw [vput_high n (by omega)]
      have h2 : n / 128 < 128 ^ k := by
        rw [Nat.pow_succ] at h
        exact Nat.div_lt_of_lt_mul (by rwa [Nat.mul_comm] at h)
      have hk1 : 1 ≤ k := by
        rcases Nat.eq_zero_or_pos k with rfl | h3
        · simp at h2; omega
        · exact h3
      have := ih (n / 128) h2 hk1
      simp only [List.length_cons]; omega
theorem vput_len10 (n : Nat) (h : n < 18446744073709551616) : (vput n).length ≤ 10 := vput_len 10 n (by omega) (by omega)
theorem vput_pos (n : Nat) : 1 ≤ (vput n).length := by
  by_cases h : n < 128
  · rw [vput_low n h]; simp
  · rw [vput_high n (by omega)]; simp
def vputs (l : List Int) : List Int := if ∀ x ∈ l, 0 ≤ x then (l.map (fun x => vput x.toNat)).flatten else []
theorem vputs_some (l : List Int) (h : ∀ x ∈ l, 0 ≤ x) : vputs l = (l.map (fun x => vput x.toNat)).flatten := by unfold vputs; rw [if_pos h]
theorem vputs_none (l : List Int) (x : Int) (hx : x ∈ l) (h : x < 0) : vputs l = [] := by
  unfold vputs
  rw [if_neg fun h2 => by have := h2 x hx; omega]
theorem vflat_len (l : List Int) (h : ∀ x ∈ l, InK .i64 x) : ((l.map (fun x => vput x.toNat)).flatten).length ≤ 10 * l.length := by
  induction l with
  | nil => simp
  | cons x l ih =>
    have h1 := (h x (by simp)).i64
    have h2 := vput_len10 x.toNat (by omega)
    have h3 := ih fun y hy => h y (by simp [hy])
    simp only [List.map_cons, List.flatten_cons, List.length_append, List.length_cons]; omega
/-- A signed number as one that is not. -/
def zig (n : Int) : Nat := if 0 ≤ n then 2 * n.toNat else 2 * (-(n + 1)).toNat + 1
theorem zig_lt (x : Int) (h : InK .i64 x) : zig x < 18446744073709551616 := by
  have := h.i64
  unfold zig
  split <;> omega
theorem zig_pos (m : Nat) (h : (m : Int) ≤ 9223372036854775807) : bits .xor .u64 ((m : Int) * 2) ((m : Int) / 9223372036854775808) = (zig m : Int) := by
  have e1 : (m : Int) / 9223372036854775808 = ((0 : Nat) : Int) := by omega
  have e2 : (m : Int) * 2 = ((2 * m : Nat) : Int) := by omega
  rw [e1, e2, u64_xor_nat _ _ (by omega) (by omega), Nat.xor_zero]
  unfold zig
  rw [if_pos (by omega)]
  simp
theorem xor_ones64 (n : Nat) (h : n < 2 ^ 64) : n ^^^ 18446744073709551615 = 18446744073709551615 - n := by
  have e : (BitVec.ofNat 64 n ^^^ BitVec.allOnes 64) = ~~~ BitVec.ofNat 64 n := by
    rw [BitVec.xor_allOnes]
  have e2 := congrArg BitVec.toNat e
  simp only [BitVec.toNat_xor, BitVec.toNat_ofNat, BitVec.toNat_allOnes, BitVec.toNat_not] at e2
  rw [Nat.mod_eq_of_lt h] at e2
  exact e2
theorem zig_neg (x : Int) (h : InK .i64 x) (h0 : x < 0) : bits .xor .u64 (IntKind.u64.wrap (IntKind.u64.wrap x * 2)) (IntKind.u64.wrap (x / 9223372036854775808)) = (zig x : Int) := by
  have h1 := h.i64
  have wr : ∀ y : Int, IntKind.u64.wrap y = y % 18446744073709551616 := fun y => by simp [IntKind.wrap, IntKind.bits, IntKind.signed]
  obtain ⟨m, hm⟩ := Int.eq_ofNat_of_zero_le (show 0 ≤ -(x + 1) by omega)
  rw [wr, wr, wr, show x / 9223372036854775808 = -1 by omega, show (-1 : Int) % 18446744073709551616 = ((18446744073709551615 : Nat) : Int) by omega,
    show x % 18446744073709551616 * 2 % 18446744073709551616 = ((18446744073709551614 - 2 * m : Nat) : Int) by omega, u64_xor_nat _ _ (by omega) (by omega), xor_ones64 _ (by omega)]
  unfold zig
  rw [if_neg (by omega)]
  omega
theorem or128 : ∀ x : Fin 256, (x.val ||| 128) = x.val % 128 + 128 := by decide
theorem or128_u8 (m : Nat) : bits .or .u8 ((m : Int) % 256) 128 = ((m % 128 + 128 : Nat) : Int) := by
  have h := u8_or_nat (m % 256) 128 (by omega) (by omega)
  have e := or128 ⟨m % 256, by omega⟩
  simp only at e
  rw [e] at h
  rw [show ((m : Int) % 256) = ((m % 256 : Nat) : Int) by omega]
  refine h.trans ?_
  omega
theorem clear128_u8 (x : Int) (h : InK .u8 x) : bits .andNot .u8 x 128 = x % 128 := by
  obtain ⟨h0, h1⟩ := h.u8
  obtain ⟨m, rfl⟩ := Int.eq_ofNat_of_zero_le h0
  have h := u8_andNot_nat m 128 (by omega) (by omega)
  have e : m &&& (255 - 128) = m % 128 := Nat.and_two_pow_sub_one_eq_mod m 7
  rw [e] at h
  refine h.trans (by omega)
def vget (g : Nat) : List Int → Nat → Nat → Nat × Nat × Nat
  | [], i, _ => (0, i, 4)
  | c :: t, i, n => if 9 < i ∨ g < n + c.toNat % 128 * 2 ^ (7 * i) ∨ (c = 0 ∧ 0 < i) then (0, i, 3) else if c < 128 then (n + c.toNat % 128 * 2 ^ (7 * i), i + 1, 0) else vget g t (i + 1) (n + c.toNat % 128 * 2 ^ (7 * i))
theorem vget_drop (l : List Int) (k : Nat) (h : k < l.length) {x : Int} (hx : l.getD k 0 = x) : l.drop k = x :: l.drop (k + 1) := by
  rw [List.drop_eq_getElem_cons h, ← hx, List.getD_eq_getElem?_getD, List.getElem?_eq_getElem h]
  rfl
theorem vget_bad (g : Nat) (t : List Int) (c : Int) (i n : Nat) (h : 9 < i ∨ g < n + c.toNat % 128 * 2 ^ (7 * i) ∨ (c = 0 ∧ 0 < i)) : vget g (c :: t) i n = (0, i, 3) := by rw [vget, if_pos h]
theorem vget_last (g : Nat) (t : List Int) (c : Int) (i n : Nat) (h : ¬ (9 < i ∨ g < n + c.toNat % 128 * 2 ^ (7 * i) ∨ (c = 0 ∧ 0 < i))) (h2 : c < 128) : vget g (c :: t) i n = (n + c.toNat % 128 * 2 ^ (7 * i), i + 1, 0) := by rw [vget, if_neg h, if_pos h2]
theorem vget_next (g : Nat) (t : List Int) (c : Int) (i n : Nat) (h : ¬ (9 < i ∨ g < n + c.toNat % 128 * 2 ^ (7 * i) ∨ (c = 0 ∧ 0 < i))) (h2 : ¬ c < 128) : vget g (c :: t) i n = vget g t (i + 1) (n + c.toNat % 128 * 2 ^ (7 * i)) := by rw [vget, if_neg h, if_neg h2]

theorem or_shift (m p T : Nat) (i : Nat) (hT : T = 2 ^ i) (hm : m < T) (hmm : m < 18446744073709551616) (hp : p * T < 18446744073709551616) : bits .or .u64 (m : Int) (IntKind.u64.wrap ((p : Int) * (T : Int))) = ((m + p * T : Nat) : Int) := by
  have hm2 : T ≤ p * T ∨ p = 0 := by
    rcases Nat.eq_zero_or_pos p with h | h
    · exact Or.inr h
    · exact Or.inl (Nat.le_mul_of_pos_left _ h)
  rw [show ((p : Int) * (T : Int)) = ((p * T : Nat) : Int) by push_cast; rfl]
  generalize hq : p * T = q at *
  rw [show IntKind.u64.wrap (q : Int) = (q : Int) by rw [show IntKind.u64.wrap (q : Int) = (q : Int) % 18446744073709551616 by simp [IntKind.wrap, IntKind.bits, IntKind.signed]]; omega]
  by_cases hp0 : p = 0
  · subst hp0
    simp only [Nat.zero_mul] at hq
    subst hq
    rw [u64_or_nat _ _ hmm (by omega)]; simp
  · rw [u64_or_nat _ _ (by omega) (by omega), Nat.or_comm]
    have := Nat.two_pow_add_eq_or_of_lt (i := i) (b := m) (by rw [← hT]; exact hm) p
    rw [← hT] at this
    rw [Nat.mul_comm] at hq
    rw [hq] at this
    omega
end Go.Proofs.Ytneliajeokajbaa

/- The walks of a number's bytes. -/
namespace Go.Proofs.Ytneliajeokajbaa
open Go.RowKit
set_option maxRecDepth 100000

set_option maxHeartbeats 1000000 in
theorem varput_calls (base n : Nat) (v : Value) (xs : List Int) (w : World) (hv : Own w base 5 .u8 v xs) (hb : base ≤ w.heap.size) (hn : n < 18446744073709551616) (hx : xs.length ≤ 140737488355000) :
    Calls Try.prog 106 #[v, .int .u64 n] w fun e w' => ∃ v', e = .returned v' ∧ Own w' base 5 .u8 v' (xs ++ vput n) ∧ UpX (fun b => base ≤ b) w w' := by
  have hl := vput_len10 n hn
  obtain ⟨A, c, rfl, hrd⟩ := hv.rd
  go_enter Try.func106, Try.ntmps106
  go_wp2_with fail
  go_loopw [0, 1] (fun o i wr => ∃ (m : Nat) (d : List Int), i = .int .u64 m ∧ m ≤ n ∧ Own wr base 5 .u8 o (xs ++ d) ∧ Hid (vput n = d ++ vput m) ∧ UpX (fun b => base ≤ b) w wr) (fun _ i _ => (intOf i).toNat)
  case atStart => exact ⟨n, [], rfl, Nat.le_refl _, by simpa using hv, Lib.hid rfl, UpX.refl _ _⟩
  case round =>
    obtain ⟨m, d, rfl, hm, ho, HD, hu⟩ := hrel
    have hmx : m < 18446744073709551616 := by omega
    have hsz := hu.size
    by_cases h128 : 128 ≤ m
    · obtain ⟨A', c', rfl, hrd'⟩ := ho.rd
      have hor := or128_u8 m
      have HV := Lib.hid (vput_high m h128)
      have HDL := Lib.hid (show d.length ≤ 10 by have := congrArg List.length HD.out; rw [List.length_append] at this; omega)
      have HB := Lib.hid (InK.of_u8 (x := ((m % 128 + 128 : Nat) : Int)) (by omega) (by omega))
      have HM := Lib.hid (show ((m / 128 : Nat) : Int) = (m : Int) / 128 by omega)
      generalize ((m % 128 + 128 : Nat) : Int) = z at *
      have hlo := ho.lt
      go_wp2_with (refine wpl_push_int (t := 76) base 5 .u8 1 Try.underlying76 infoU8 _ (xs ++ d) z rfl HB.out (fun _ => rfl) (fun _ => rfl) ho (by have := HDL.out; rw [List.length_append]; omega) (by decide) (by omega) ?_; intro v1 w1 hv1 hu1)
      go_roundw
      case rel =>
        refine ⟨m / 128, d ++ [z], by rw [HM.out], by omega, by simpa using hv1, Lib.hid ?_, hu.then_ hu1 (fun i hi e => (hlo i e).1)⟩
        rw [HD.out, HV.out]; simp
      case measure => simp [intOf]; omega
    · obtain ⟨A', c', rfl, hrd'⟩ := ho.rd
      have hm2 : (m : Int) % 256 = (m : Int) := by omega
      have HV := Lib.hid (vput_low m (by omega))
      have HDL := Lib.hid (show d.length ≤ 10 by have := congrArg List.length HD.out; rw [List.length_append] at this; omega)
      have hlo := ho.lt
      go_wp2_with (refine wpl_push_int (t := 76) base 5 .u8 1 Try.underlying76 infoU8 _ (xs ++ d) m rfl (InK.of_u8 (by omega) (by omega)) (fun _ => rfl) (fun _ => rfl) ho (by have := HDL.out; rw [List.length_append]; omega) (by decide) (by omega) ?_; intro v1 w1 hv1 hu1)
      go_ret
      refine ⟨_, rfl, ?_, hu.then_ hu1 (fun i hi e => (hlo i e).1)⟩
      rw [HD.out, HV.out]
      simpa using hv1
set_option maxHeartbeats 1000000 in
theorem varPut_calls (A : Option Addr) (c : Nat) (l : List Int) (w : World) (h1 : Rd w .i64 A c l) (hb : 10 * l.length ≤ 140737488355000) :
    Calls Try.prog 90 #[.slice A l.length c] w (RetOwn w 5 .u8 (vputs l)) := by
  go_enter Try.func90, Try.ntmps90
  go_wp2_with fail
  go_loopw [3, 5, 8] (fun o _ i wr => ∃ k : Nat, k ≤ l.length ∧ i = .int .i64 k ∧ Own wr w.heap.size 5 .u8 o ((l.take k).map (fun x => vput x.toNat)).flatten ∧ (∀ x ∈ l.take k, 0 ≤ x) ∧ Up w wr) (fun _ _ i _ => l.length - (intOf i).toNat)
  case atStart => exact ⟨0, by omega, rfl, by simpa using Own.nil _ _ _ _, by simp, Up.refl _⟩
  case round =>
    obtain ⟨k, hk, rfl, ho, hpos, hu⟩ := hrel
    by_cases hlt : k < l.length
    · obtain ⟨ad, x, rfl, hcell, HX, hxr⟩ := h1.get k hlt
      have hcell' := hu.cell hcell
      have hx2 := hxr.i64
      have HT := Lib.hid (take_succ_getD l k 0 hlt)
      by_cases h0 : 0 ≤ x
      · obtain ⟨m, rfl⟩ := Int.eq_ofNat_of_zero_le h0
        have hlen : ((l.take k).map (fun x => vput x.toNat)).flatten.length ≤ 140737488355000 := by
          have := vflat_len (l.take k) (fun x hx => h1.wf x (List.mem_of_mem_take hx))
          have h2 := List.length_take_le' k l
          omega
        have hmod : (m : Int) % 18446744073709551616 = (m : Int) := by omega
        have HL := Lib.hid hlen
        have HP := Lib.hid hpos
        clear hlen hpos
        generalize hD : ((l.take k).map (fun x => vput x.toNat)).flatten = D at *
        have HD := Lib.hid hD
        clear hD
        go_wp2_with fail
        refine (varput_calls w.heap.size m _ D wr ho hu.size (by omega) HL.out).mono ?_
        rintro e w2 ⟨v2, rfl, hv2, hu2⟩
        go_wp2_with fail
        go_roundw
        case rel =>
          refine ⟨k + 1, by omega, by simp, ?_, ?_, hu.thenx hu2 fun i hi e => by omega⟩
          · rw [HT.out, HX.out, List.map_append, List.flatten_append, HD.out]
            simpa using hv2
          · rw [HT.out, HX.out]
            intro y hy
            rcases List.mem_append.1 hy with h3 | h3
            · exact HP.out y h3
            · simp only [List.mem_cons, List.not_mem_nil, or_false] at h3
              omega
        case measure => simp [intOf]; omega
      · have HN := Lib.hid (vputs_none l x (by rw [← HX.out, List.getD_eq_getElem?_getD, List.getElem?_eq_getElem hlt]; exact List.getElem_mem hlt) (by omega))
        go_wp2_with fail
        go_ret
        rw [HN.out]
        exact RetOwn.of (Own.nil _ _ _ _) hu
    · have hke : k = l.length := by omega
      subst hke
      rw [List.take_length] at ho hpos
      have HS := Lib.hid (vputs_some l hpos)
      clear hpos
      go_wp2_with fail
      go_ret
      rw [HS.out]
      exact RetOwn.of ho hu

theorem varPut_n {A : Option Addr} {c n : Nat} {l : List Int} {w : World} (h1 : Rd w .i64 A c l) (hb : 10 * l.length ≤ 140737488355000) (hn : n = l.length) :
    Calls Try.prog 90 #[.slice A n c] w (RetOwn w 5 .u8 (vputs l)) := by
  subst hn
  exact varPut_calls A c l w h1 hb

/-- A reader: the bytes that are left, and the error. -/
structure Rdr (w : World) (g : Nat) (l : List Int) (e : Int) : Prop where mk ::
  out : ∃ A c, Blk w g 130 #[.slice A l.length c, .int .i64 e] ∧ Rd w .u8 A c l ∧ ∀ ad, A = some ad → 0 < l.length → ad.block < g

theorem Rdr.upx {F : Nat → Prop} {w w' : World} {g : Nat} {l : List Int} {e : Int} (h : Rdr w g l e) (hu : UpX F w w') (hF : ∀ b, b ≤ g → ¬ F b) : Rdr w' g l e := by
  obtain ⟨A, c, hB, hrd, hlt⟩ := h.out
  exact ⟨A, c, hB.upx hu (hF g (Nat.le_refl _)), hrd.upx hu fun ad h0 hp => hF _ (Nat.le_of_lt (hlt ad h0 hp)), hlt⟩

set_option maxHeartbeats 400000 in
theorem varLeft_calls (g : Nat) (l : List Int) (e : Int) (w : World) (hg : Rdr w g l e) (hb : l.length ≤ 140737488355328) :
    Calls Try.prog 109 #[.pointer (some ⟨g, 0, none⟩)] w (RetOwn w 5 .u8 l) := by
  obtain ⟨A, c, hB, hrd, hne⟩ := hg.out
  have c0 := hB.cell 0
  go_enter Try.func109, Try.ntmps109
  go_wp2_with fail
  refine (bytesClone_n hrd hb rfl).mono ?_
  rintro e w1 ⟨v, rfl, hv, hu⟩
  obtain ⟨B, d, rfl, hd⟩ := hv.rd
  go_wp2_with fail
  go_ret
  exact RetOwn.of hv hu

set_option maxHeartbeats 400000 in
theorem varTake_calls (g n : Nat) (l : List Int) (e : Int) (w : World) (hg : Rdr w g l e) (hb : l.length ≤ 140737488355328) (hn : n ≤ l.length) :
    Calls Try.prog 108 #[.pointer (some ⟨g, 0, none⟩), .int .i64 n] w fun en w' => ∃ v, en = .returned v ∧ Own w' w.heap.size 5 .u8 v (l.take n) ∧ UpX (fun b => b = g) w w' ∧ Rdr w' g (l.drop n) e := by
  obtain ⟨A, c, hB, hrd, hne⟩ := hg.out
  have c0 := hB.cell 0
  have hle := hrd.le
  have hnc : (n : Int) ≤ (c : Int) := by omega
  have hnl : (n : Int) ≤ (l.length : Int) := by omega
  have HL := Lib.hid (show n = (l.take n).length by rw [List.length_take]; omega)
  have h2 := hrd.take n
  go_enter Try.func108, Try.ntmps108
  go_wp2_with fail
  refine (bytesClone_n h2 (by have := HL.out; omega) HL.out).mono ?_
  rintro e w1 ⟨v, rfl, hv, hu⟩
  obtain ⟨B, d, rfl, hd⟩ := hv.rd
  have hB1 := hB.up hu
  have c1 := hB1.cell 0
  have f1 := hB1.frozen 0
  have h3 := (hrd.up hu).drop_ n hn
  have hx1 : ∀ v, UpX (fun b => b = g) w (w1.setCell ⟨g, 0, none⟩ v) := fun v => (hu.x _).trans (UpX.one _ _ _ _)
  have hlt := hB.lt
  have key : ∀ A2 c2, Rd w1 .u8 A2 c2 (l.drop n) → (∀ ad, A2 = some ad → 0 < (l.drop n).length → ad.block < g) → Rdr (w1.setCell ⟨g, 0, none⟩ (.slice A2 (l.length - n) c2)) g (l.drop n) e := by
    intro A2 c2 hr hne2
    refine ⟨A2, c2, ?_, hr.upx (UpX.one _ _ _ _) fun ad h0 hp => Nat.ne_of_lt (hne2 ad h0 hp), hne2⟩
    rw [List.length_drop]
    exact hB1.set 0 _
  have hvx : ∀ v2 v, Own w1 w.heap.size 5 .u8 v2 (l.take n) → Own (w1.setCell ⟨g, 0, none⟩ v) w.heap.size 5 .u8 v2 (l.take n) := fun v2 v h => h.upx (UpX.one _ _ _ _) fun b hb e => by have := (h.lt b hb).1; omega
  have hv2 : Own w1 w.heap.size 5 .u8 (.slice B n d) (l.take n) := by rw [HL.out] at hv ⊢; simpa using hv
  go_wp2_with fail
  · go_ret
    rw [if_pos h] at h3
    subst h
    rw [Nat.sub_self] at h3
    exact ⟨_, rfl, hvx _ _ hv2, hx1 _, key _ _ h3 fun ad h4 h5 => hne ad h4 (by rw [List.length_drop] at h5; omega)⟩
  · go_ret
    rw [if_neg h] at h3
    refine ⟨_, rfl, hvx _ _ hv2, hx1 _, key _ _ h3 ?_⟩
    intro ad h4 h5
    cases A with
    | none => simp at h4
    | some a =>
      simp only [Option.map_some, Option.some.injEq] at h4
      subst h4
      rw [addr_add_block]
      exact hne a rfl (by rw [List.length_drop] at h5; omega)

set_option maxHeartbeats 400000 in
theorem varEnd_bad (g : Nat) (l : List Int) (e : Int) (w : World) (hg : Rdr w g l e) (he : ¬ (e = 0)) :
    Calls Try.prog 95 #[.pointer (some ⟨g, 0, none⟩)] w fun en w' => en = .returned (.tuple #[.slice none 0 0, .int .i64 e]) ∧ Up w w' := by
  obtain ⟨A, c, hB, hrd, hne⟩ := hg.out
  have c1 := hB.cell 1
  go_enter Try.func95, Try.ntmps95
  go_wp2_with fail
  go_quiet (fail)
  go_wp2_with fail
  go_ret2
  exact ⟨rfl, (Up.refl _).drewN _⟩

set_option maxHeartbeats 400000 in
theorem varEnd_ok (g : Nat) (l : List Int) (w : World) (hg : Rdr w g l 0) (hb : l.length ≤ 140737488355328) :
    Calls Try.prog 95 #[.pointer (some ⟨g, 0, none⟩)] w fun en w' => ∃ v, en = .returned (.tuple #[v, .int .i64 0]) ∧ Own w' w.heap.size 5 .u8 v l ∧ Up w w' := by
  obtain ⟨A, c, hB, hrd, hne⟩ := hg.out
  have c1 := hB.cell 1
  go_enter Try.func95, Try.ntmps95
  go_wp2_with fail
  refine (varLeft_calls g l 0 w hg hb).mono ?_
  rintro e w1 ⟨v, rfl, hv, hu⟩
  obtain ⟨B, d, rfl, hd⟩ := hv.rd
  go_wp2_with fail
  go_ret2
  exact ⟨_, rfl, hv, hu⟩

set_option maxHeartbeats 400000 in
theorem varNumber_bad (g gr : Nat) (l : List Int) (e : Int) (w : World) (hg : Rdr w g l e) (he : ¬ (e = 0)) :
    Calls Try.prog 94 #[.pointer (some ⟨g, 0, none⟩), .int .u64 gr] w fun en w' => en = .returned (.int .u64 0) ∧ w = w' := by
  obtain ⟨A, c, hB, hrd, hne⟩ := hg.out
  have c1 := hB.cell 1
  go_enter Try.func94, Try.ntmps94
  go_wp2_with fail
  go_step3
  go_wp2_with fail
  try rw [Exit.noGoto_ret]
  go_ret
  exact ⟨rfl, rfl⟩

/-- What a reading of a number leaves: the number, the rest, the error. -/
structure NumPost (w : World) (g : Nat) (l : List Int) (r : Nat × Nat × Nat) (en : Ending) (w' : World) : Prop where mk ::
  out : en = .returned (.int .u64 r.1) ∧ UpX (fun b => b = g) w w' ∧ Rdr w' g (if r.2.2 = 0 then l.drop r.2.1 else l) r.2.2

set_option maxHeartbeats 2000000 in
theorem varNumber_calls (g gr : Nat) (l : List Int) (w : World) (hg : Rdr w g l 0) (hb : l.length ≤ 140737488355328) (hgr : gr < 18446744073709551616) :
    Calls Try.prog 94 #[.pointer (some ⟨g, 0, none⟩), .int .u64 gr] w (NumPost w g l (vget gr l 0 0)) := by
  obtain ⟨A, c, hB, hrd, hne⟩ := hg.out
  have c0 := hB.cell 0
  have c1 := hB.cell 1
  go_enter Try.func94, Try.ntmps94
  go_wp2_with fail
  go_step3
  go_wp2_with fail
  go_step3
  go_wp2_with fail
  have f1 := hB.frozen 1
  have hset : ∀ e : Int, Rdr (w.setCell ⟨g, 1, none⟩ (.int .i64 e)) g l e := fun e => ⟨A, c, hB.set 1 _, hrd.upx (UpX.one _ _ _ _) fun ad h0 hp => Nat.ne_of_lt (hne ad h0 hp), hne⟩
  have hxs : ∀ v, UpX (fun b => b = g) w (w.setCell ⟨g, 1, none⟩ v) := fun v => UpX.one _ _ _ _
  go_loopw [5, 6, 7, 8, 9, 21, 31] (fun n _ _ _ _ i _ wr => ∃ k m : Nat, k ≤ l.length ∧ k ≤ 10 ∧ i = .int .i64 k ∧ n = .int .u64 m ∧ w = wr ∧ m < 2 ^ (7 * k) ∧ m ≤ gr ∧ Hid (vget gr l 0 0 = vget gr (l.drop k) k m)) (fun _ _ _ _ _ i _ _ => l.length - (intOf i).toNat)
  case atStart => exact ⟨0, 0, by omega, by omega, rfl, rfl, rfl, by omega, by omega, Lib.hid rfl⟩
  case round =>
    obtain ⟨k, m, hk, hk10, rfl, rfl, rfl, hm, hmg, HG⟩ := hrel
    have HM := Lib.hid hm
    clear hm
    by_cases hlt : k < l.length
    · obtain ⟨ad, x, rfl, hcell, HX, hxr⟩ := hrd.get k hlt
      have hx2 := hxr.u8
      obtain ⟨y, rfl⟩ := Int.eq_ofNat_of_zero_le hx2.1
      have hcl := clear128_u8 y hxr
      have HD := Lib.hid (vget_drop l k hlt HX.out)
      have hbad : (9 < k ∨ gr < m + y % 128 * 2 ^ (7 * k) ∨ ((y : Int) = 0 ∧ 0 < k)) → vget gr l 0 0 = (0, k, 3) := fun h => by rw [HG.out, HD.out]; exact vget_bad _ _ _ _ _ (by simpa using h)
      by_cases h9 : 9 < k
      · have HV := Lib.hid (hbad (.inl h9))
        have h63 : (63 : Int) < 7 * (k : Int) := by omega
        clear hbad
        go_wp2_with fail
        try rw [Exit.noGoto_ret]
        go_ret
        rw [HV.out]
        exact ⟨rfl, hxs _, hset 3⟩
      · have h63 : 7 * (k : Int) ≤ 63 := by omega
        have hT := Lib.hid (show (2 : Int) ^ (7 * k) = ((2 ^ (7 * k) : Nat) : Int) by simp)
        have hTp := Lib.hid (show 0 < 2 ^ (7 * k) from Nat.two_pow_pos _)
        have HQ := Lib.hid (show 18446744073709551615 / (2 : Int) ^ (7 * k) < (y : Int) % 128 ↔ 18446744073709551615 / 2 ^ (7 * k) < y % 128 by
          rw [hT.out, show (18446744073709551615 : Int) / ((2 ^ (7 * k) : Nat) : Int) = ((18446744073709551615 / 2 ^ (7 * k) : Nat) : Int) by rw [Int.natCast_ediv]; rfl]
          generalize 18446744073709551615 / 2 ^ (7 * k) = q
          omega)
        by_cases hq : 18446744073709551615 / (2 : Int) ^ (7 * k) < (y : Int) % 128
        · have HV := Lib.hid (hbad (.inr (.inl (by
            have h1 := (HQ.out).1 hq
            rw [Nat.div_lt_iff_lt_mul hTp.out] at h1
            omega))))
          clear hbad
          go_wp2_with fail
          try rw [Exit.noGoto_ret]
          go_ret
          rw [HV.out]
          exact ⟨rfl, hxs _, hset 3⟩
        · have hpT : y % 128 * 2 ^ (7 * k) < 18446744073709551616 := by
            have h1 : ¬ (18446744073709551615 / 2 ^ (7 * k) < y % 128) := fun h => hq ((HQ.out).2 h)
            rw [Nat.div_lt_iff_lt_mul hTp.out] at h1
            omega
          have hor := or_shift m (y % 128) _ (7 * k) rfl HM.out (by omega) hpT
          rw [← hT.out] at hor
          have hor2 : bits .or .u64 (m : Int) (IntKind.u64.wrap ((y : Int) % 128 * 2 ^ (7 * k))) = ((m + y % 128 * 2 ^ (7 * k) : Nat) : Int) := by exact_mod_cast hor
          clear hor
          have HB := Lib.hid hbad
          have HG2 : vget gr l 0 0 = vget gr ((y : Int) :: l.drop (k + 1)) k m := by rw [HG.out, HD.out]
          have HL := Lib.hid fun h h2 => HG2.trans (vget_last gr (l.drop (k + 1)) y k m h h2)
          have HN := Lib.hid fun h h2 => HG2.trans (vget_next gr (l.drop (k + 1)) y k m h h2)
          clear HG2
          simp only [Int.toNat_natCast] at HL HN
          have HM2 := Lib.hid (show m + y % 128 * 2 ^ (7 * k) < 2 ^ (7 * (k + 1)) by
            have h1 : y % 128 * 2 ^ (7 * k) ≤ 127 * 2 ^ (7 * k) := Nat.mul_le_mul_right _ (by omega)
            have h2 : 2 ^ (7 * (k + 1)) = 128 * 2 ^ (7 * k) := by rw [show 7 * (k + 1) = 7 * k + 7 by omega, Nat.pow_add, Nat.mul_comm]
            have := HM.out
            omega)
          clear hbad
          generalize m + y % 128 * 2 ^ (7 * k) = v at *
          by_cases hv : gr < v
          · have HV := Lib.hid (HB.out (.inr (.inl hv)))
            go_wp2_with fail
            try rw [Exit.noGoto_ret]
            go_ret
            rw [HV.out]
            exact ⟨rfl, hxs _, hset 3⟩
          · by_cases h0 : y = 0 ∧ 0 < k
            · have HV := Lib.hid (HB.out (.inr (.inr ⟨by omega, h0.2⟩)))
              have H0 := Lib.hid h0
              have h0k : 0 < k := h0.2
              have hgv : (v : Int) ≤ (gr : Int) := by omega
              clear h0
              go_wp2_with fail
              all_goals first
                | (exfalso; have := H0.out; omega)
                | (try rw [Exit.noGoto_ret]
                   go_ret
                   rw [HV.out]
                   exact ⟨rfl, hxs _, hset 3⟩)
            · have H02 : Hid (y = 0 → bits .or .u64 (m : Int) 0 = (v : Int)) := Lib.hid (fun h => by
                have := hor2
                rw [h] at this
                simpa [show IntKind.u64.wrap 0 = 0 from rfl] using this)
              have hno : ¬ (9 < k ∨ gr < v ∨ (y : Int) = 0 ∧ 0 < k) := by omega
              have HL2 := Lib.hid (HL.out hno)
              have HN2 := Lib.hid (HN.out hno)
              clear hno HL HN HB
              have hgv : (v : Int) ≤ (gr : Int) := by omega
              by_cases h128 : (y : Int) < 128
              · have HV := Lib.hid (HL2.out h128)
                go_wp2_with fail
                all_goals
                  (refine (varTake_calls g (k + 1) l 0 w hg hb (by omega)).mono ?_
                   rintro e w2 ⟨v2, rfl, hv2, hu2, hr2⟩
                   go_wp2_with fail
                   try rw [Exit.noGoto_ret]
                   go_ret
                   rw [HV.out]
                   refine ⟨?_, hu2, by simpa using hr2⟩
                   first
                     | rfl
                     | (show Ending.returned (Value.int .u64 (bits .or .u64 (m : Int) 0)) = Ending.returned (Value.int .u64 (v : Int))
                        rw [H02.out (by assumption)]))
              · have HV := Lib.hid (HN2.out h128)
                go_wp2_with fail
                go_roundw
                case rel => exact ⟨k + 1, v, by omega, by omega, by simp, rfl, trivial, HM2.out, by omega, HV⟩
                case measure => simp [intOf]; omega
    · have hke : k = l.length := by omega
      subst hke
      have HV := Lib.hid (show vget gr l 0 0 = (0, l.length, 4) by rw [HG.out, List.drop_length]; rfl)
      go_wp2_with fail
      try rw [Exit.noGoto_ret]
      go_ret
      rw [HV.out]
      exact ⟨rfl, hxs _, hset 4⟩
end Go.Proofs.Ytneliajeokajbaa

/- A signed number back: its bits. -/
namespace Go.Proofs.Ytneliajeokajbaa
open Go.RowKit
set_option maxRecDepth 100000

def unzig (n : Nat) : Int := if n % 2 = 0 then (n / 2 : Nat) else -(n / 2 : Nat) - 1

theorem i64_xor_nat0 (x : Nat) (h : x < 9223372036854775808) : bits .xor .i64 (x : Int) 0 = x := by
  have e : (BitVec.ofInt 64 (x : Int) ^^^ BitVec.ofInt 64 0).toNat = x := by
    rw [show BitVec.ofInt 64 0 = 0#64 by decide, BitVec.xor_zero]
    simp only [BitVec.ofInt_natCast, BitVec.toNat_ofNat]
    omega
  show IntKind.i64.wrap (((BitVec.ofInt 64 (x : Int) ^^^ BitVec.ofInt 64 0).toNat : Nat) : Int) = _
  rw [e]
  simp [IntKind.wrap, IntKind.bits, IntKind.signed]
  omega
theorem i64_xor_ones (x : Nat) (h : x < 9223372036854775808) : bits .xor .i64 (x : Int) (-1) = -(x : Int) - 1 := by
  have e : (BitVec.ofInt 64 (x : Int) ^^^ BitVec.ofInt 64 (-1)).toNat = 18446744073709551615 - x := by
    rw [show BitVec.ofInt 64 (-1) = BitVec.allOnes 64 by decide, BitVec.xor_allOnes, BitVec.toNat_not]
    simp only [BitVec.ofInt_natCast, BitVec.toNat_ofNat]
    omega
  show IntKind.i64.wrap (((BitVec.ofInt 64 (x : Int) ^^^ BitVec.ofInt 64 (-1)).toNat : Nat) : Int) = _
  rw [e]
  simp [IntKind.wrap, IntKind.bits, IntKind.signed]
  omega
theorem unzig_bits (m : Nat) (h : m ≤ 18446744073709551615) : bits .xor .i64 ((m : Int) / 2) (wrap64 (-wrap64 (bits .and .u64 (m : Int) 1))) = unzig m := by
  have e : bits .and .u64 (m : Int) 1 = ((m % 2 : Nat) : Int) := by
    have := u64_and_nat m 1 (by omega) (by omega)
    rw [Nat.and_one_is_mod] at this
    exact this
  rw [e, show ((m : Int) / 2) = ((m / 2 : Nat) : Int) by omega]
  unfold unzig
  rcases Nat.mod_two_eq_zero_or_one m with h2 | h2
  · rw [h2, if_pos rfl, show wrap64 (-wrap64 ((0 : Nat) : Int)) = 0 by unfold wrap64; omega]
    exact i64_xor_nat0 (m / 2) (by omega)
  · rw [h2, if_neg (by omega), show wrap64 (-wrap64 ((1 : Nat) : Int)) = -1 by unfold wrap64; omega]
    exact i64_xor_ones (m / 2) (by omega)
end Go.Proofs.Ytneliajeokajbaa

/- The walks of varint's Get, GetSigned. -/
namespace Go.Proofs.Ytneliajeokajbaa
open Go.RowKit
set_option maxRecDepth 100000

theorem vget_le (g : Nat) (l : List Int) (i n : Nat) : (vget g l i n).1 ≤ g := by
  induction l generalizing i n with
  | nil => simp [vget]
  | cons c t ih =>
    rw [vget]
    split
    · simp
    · rename_i h
      split
      · simp only; omega
      · exact ih _ _
theorem vget_err (g : Nat) (l : List Int) (i n : Nat) : (vget g l i n).2.2 = 0 ∨ (vget g l i n).2.2 = 3 ∨ (vget g l i n).2.2 = 4 := by
  induction l generalizing i n with
  | nil => simp [vget]
  | cons c t ih =>
    rw [vget]
    split
    · simp
    · split
      · simp
      · exact ih _ _
theorem vget_zero (g : Nat) (l : List Int) (i n : Nat) (h : (vget g l i n).2.2 ≠ 0) : (vget g l i n).1 = 0 := by
  induction l generalizing i n with
  | nil => simp [vget]
  | cons c t ih =>
    rw [vget] at h ⊢
    split
    · simp
    · rename_i h1
      rw [if_neg h1] at h
      split
      · rename_i h2
        rw [if_pos h2] at h
        simp at h
      · rename_i h2
        rw [if_neg h2] at h
        exact ih _ _ h

def vrest (r : Nat × Nat × Nat) (l : List Int) : List Int := if r.2.2 = 0 then l.drop r.2.1 else []

structure GetPost (w : World) (m : Int) (r : Nat × Nat × Nat) (l : List Int) (en : Ending) (w' : World) : Prop where mk ::
  out : ∃ v, en = .returned (.tuple #[.int .i64 m, v, .int .i64 r.2.2]) ∧ Own w' w.heap.size 5 .u8 v (vrest r l) ∧ Up w w'

theorem Rdr.new (w w' : World) {A : Option Addr} {c : Nat} {l : List Int} (h : Rd w .u8 A c l) (hb : Blk w' w.heap.size 130 #[.slice A l.length c, .int .i64 0]) (hu : Up w w') : Rdr w' w.heap.size l 0 :=
  ⟨A, c, hb, h.up hu, fun ad h0 hp => h.lt ad h0 hp⟩

set_option maxHeartbeats 1000000 in
theorem varGet_calls (A : Option Addr) (c : Nat) (l : List Int) (w : World) (h1 : Rd w .u8 A c l) (hb : l.length ≤ 140737488355328) :
    Calls Try.prog 97 #[.slice A l.length c] w (GetPost w (vget 9223372036854775807 l 0 0).1 (vget 9223372036854775807 l 0 0) l) := by
  have hN : Rdr (w.alloc (.cells #[.slice A l.length c, .int .i64 0] 130)) w.heap.size l 0 := Rdr.new w _ h1 (Blk.new _ _ _) ((Up.refl _).alloc _)
  have hU : Up w (w.alloc (.cells #[.slice A l.length c, .int .i64 0] 130)) := (Up.refl _).alloc _
  go_enter Try.func97, Try.ntmps97
  go_wp2_with fail
  refine (varNumber_calls w.heap.size 9223372036854775807 l _ hN hb (by omega)).mono ?_
  rintro e w1 hp
  obtain ⟨rfl, hx1, hr1⟩ := hp.out
  have hle := vget_le 9223372036854775807 l 0 0
  have herr := vget_err 9223372036854775807 l 0 0
  generalize hr : vget 9223372036854775807 l 0 0 = r at *
  obtain ⟨m, j, f⟩ := r
  simp only at hle herr hr1 ⊢
  have hu1 : Up w w1 := hU.thenx hx1 fun b hb e => by omega
  by_cases h0 : f = 0
  · subst h0
    rw [if_pos rfl] at hr1
    go_wp2_with fail
    refine (varEnd_ok w.heap.size _ w1 hr1 (by rw [List.length_drop]; omega)).mono ?_
    rintro e w2 ⟨v, rfl, hv, hu2⟩
    obtain ⟨B, d, rfl, hd⟩ := hv.rd
    rw [List.length_drop] at hv
    go_wp2_with fail
    go_ret3
    exact ⟨_, rfl, (hv.mono hu1.size), hu1.trans hu2⟩
  · rw [if_neg h0] at hr1
    go_wp2_with fail
    refine (varEnd_bad w.heap.size _ _ w1 hr1 (by omega)).mono ?_
    rintro e w2 ⟨rfl, hu2⟩
    go_wp2_with fail
    go_ret3
    refine ⟨_, rfl, ?_, hu1.trans hu2⟩
    unfold vrest
    rw [if_neg h0]
    exact Own.nil _ _ _ _

set_option maxHeartbeats 1000000 in
theorem ref2Put_calls (n : Nat) (w : World) (hn : n < 18446744073709551616) :
    Calls Try.prog 85 #[.int .u64 n] w (RetOwn w 5 .u8 (vput n)) := by
  have hl := vput_len10 n hn
  go_enter Try.func85, Try.ntmps85
  go_wp2_with fail
  go_loopw [0, 3, 4] (fun i o _ wr => ∃ (m : Nat) (d : List Int), i = .int .u64 m ∧ m ≤ n ∧ Own wr w.heap.size 5 .u8 o d ∧ Hid (vput n = d ++ vput m) ∧ Up w wr) (fun i _ _ _ => (intOf i).toNat)
  case atStart => exact ⟨n, [], rfl, Nat.le_refl _, Own.nil _ _ _ _, Lib.hid rfl, Up.refl _⟩
  case round =>
    obtain ⟨m, d, rfl, hm, ho, HD, hu⟩ := hrel
    have hmx : m < 18446744073709551616 := by omega
    have hsz := hu.size
    obtain ⟨A', c', rfl, hrd'⟩ := ho.rd
    have HDL := Lib.hid (show d.length ≤ 10 by have := congrArg List.length HD.out; rw [List.length_append] at this; omega)
    have hlo := ho.lt
    have HM := Lib.hid (show ((m / 128 : Nat) : Int) = (m : Int) / 128 by omega)
    by_cases h128 : 128 ≤ m
    · have HV := Lib.hid (vput_high m h128)
      have hq : ¬ ((m : Int) / 128 = 0) := by omega
      have HZ := Lib.hid (show ((m % 128 + 128 : Nat) : Int) = (m : Int) % 128 + 128 by omega)
      have HB := Lib.hid (InK.of_u8 (x := (m : Int) % 128 + 128) (by omega) (by omega))
      go_wp2_with (refine wpl_push_int (t := 76) w.heap.size 5 .u8 1 Try.underlying76 infoU8 _ d _ rfl HB.out (fun _ => rfl) (fun _ => rfl) ho (by have := HDL.out; omega) (by decide) (by omega) ?_; intro v1 w1 hv1 hu1)
      go_roundw
      case rel =>
        refine ⟨m / 128, _, by rw [HM.out], by omega, hv1, Lib.hid ?_, hu.thenx hu1 (fun i hi e => by have := (hlo i e).1; omega)⟩
        rw [HD.out, HV.out, HZ.out]; simp
      case measure => simp [intOf]; omega
    · have HV := Lib.hid (vput_low m (by omega))
      have hq : (m : Int) / 128 = 0 := by omega
      have hq2 : (m : Int) % 128 = (m : Int) := by omega
      go_wp2_with (refine wpl_push_int (t := 76) w.heap.size 5 .u8 1 Try.underlying76 infoU8 _ d m rfl (InK.of_u8 (by omega) (by omega)) (fun _ => rfl) (fun _ => rfl) ho (by have := HDL.out; omega) (by decide) (by omega) ?_; intro v1 w1 hv1 hu1)
      go_ret
      rw [HD.out, HV.out]
      exact RetOwn.of hv1 (hu.thenx hu1 (fun i hi e => by have := (hlo i e).1; omega))

theorem vget_vput_at (gr : Nat) (t : List Int) (hg : gr < 18446744073709551616) (m : Nat) : ∀ (i k : Nat), k + m * 2 ^ (7 * i) ≤ gr → (0 < m ∨ i = 0) → vget gr (vput m ++ t) i k = (k + m * 2 ^ (7 * i), i + (vput m).length, 0) := by
  induction m using Nat.strongRecOn with
  | _ m ih =>
    intro i k hk hm
    have h9 : ¬ 9 < i := by
      intro h
      rcases hm with h1 | h1
      · have h2 : 2 ^ 70 ≤ 2 ^ (7 * i) := Nat.pow_le_pow_right (by omega) (by omega)
        have h3 : 1 * 2 ^ (7 * i) ≤ m * 2 ^ (7 * i) := Nat.mul_le_mul_right _ h1
        have h4 : (2 : Nat) ^ 70 = 1180591620717411303424 := by decide
        omega
      · omega
    by_cases h : m < 128
    · rw [vput_low m h]
      have e : (m : Int).toNat % 128 = m := by simp; omega
      rw [List.cons_append, vget_last _ _ _ _ _ (by rw [e]; omega) (by omega), e]
      rfl
    · rw [vput_high m (by omega)]
      have e : ((m % 128 + 128 : Nat) : Int).toNat % 128 = m % 128 := by rw [Int.toNat_natCast]; omega
      have hT : 2 ^ (7 * (i + 1)) = 128 * 2 ^ (7 * i) := by rw [show 7 * (i + 1) = 7 * i + 7 by omega, Nat.pow_add, Nat.mul_comm]
      have hs : k + m % 128 * 2 ^ (7 * i) + m / 128 * 2 ^ (7 * (i + 1)) = k + m * 2 ^ (7 * i) := by
        rw [hT, ← Nat.mul_assoc, Nat.add_assoc, ← Nat.add_mul]
        congr 2
        omega
      have hle : m % 128 * 2 ^ (7 * i) ≤ m * 2 ^ (7 * i) := Nat.mul_le_mul_right _ (Nat.mod_le _ _)
      rw [List.cons_append, vget_next _ _ _ _ _ (by rw [e]; omega) (by omega), e, ih (m / 128) (by omega) (i + 1) _ (by rw [hs]; exact hk) (.inl (by omega)), hs]
      simp only [List.length_cons, Prod.mk.injEq, true_and, and_true]
      omega
theorem vget_vput (gr : Nat) (t : List Int) (hg : gr < 18446744073709551616) (m : Nat) (h : m ≤ gr) : vget gr (vput m ++ t) 0 0 = (m, (vput m).length, 0) := by
  have := vget_vput_at gr t hg m 0 0 (by simpa using h) (.inr rfl)
  simpa using this
theorem unzig_zig (x : Int) : unzig (zig x) = x := by
  unfold zig unzig
  split <;> split <;> omega
theorem vputs_one (x : Int) (h : 0 ≤ x) : vputs [x] = vput x.toNat := by
  rw [vputs_some [x] (by simpa using h)]
  simp
theorem vputs_neg (x : Int) (h : x < 0) : vputs [x] = [] := vputs_none [x] x (by simp) h

theorem vput_300 : vputs [300] = [172, 2] := by
  rw [vputs_one 300 (by omega), show (300 : Int).toNat = 300 from rfl, vput_high 300 (by omega), vput_low (300 / 128) (by omega)]
  rfl
theorem vput_zig1 : vput (zig (-1)) = [1] := by
  rw [show zig (-1) = 1 from rfl, vput_low 1 (by omega)]
  rfl

theorem rd_one (w : World) (k : IntKind) (e : Nat) (x : Int) (h : InK k x) : Rd (w.alloc (.cells #[.int k x] e)) k (some ⟨w.heap.size, 0, none⟩) 1 [x] :=
  Rd.block _ (Blk.new w _ _).out (by simp) rfl (by simp) (fun y hy => by simp only [List.mem_cons, List.not_mem_nil, or_false] at hy; exact hy ▸ h)
theorem rd_two (w : World) (k : IntKind) (e : Nat) (x y : Int) (h : InK k x) (h2 : InK k y) : Rd (w.alloc (.cells #[.int k x, .int k y] e)) k (some ⟨w.heap.size, 0, none⟩) 2 [x, y] :=
  Rd.block _ (Blk.new w _ _).out (by simp) rfl (by simp) (fun z hz => by simp only [List.mem_cons, List.not_mem_nil, or_false] at hz; rcases hz with rfl | rfl; exact h; exact h2)

end Go.Proofs.Ytneliajeokajbaa
