/- Layer 12: the document's bytes of an array. -/
import Derived.Test.YtneliajeokajbaaPkDoc
import Derived.Test.YtneliajeokajbaaVarPuts
namespace Go.Proofs.Ytneliajeokajbaa
open Go.RowKit
set_option maxRecDepth 100000

/-- The document's bits, as numbers. -/
def dbits (width : Nat) (l : List Int) : List Int := (List.range (width * l.length)).map fun b => if docBit width l b = true then 1 else 0
theorem dbits_len (width : Nat) (l : List Int) : (dbits width l).length = width * l.length := by simp [dbits]
theorem docBit_at (width : Nat) (l : List Int) (i k : Nat) (hi : i < l.length) (hk : k < width) : docBit width l (width * i + k) = ((l.getD i 0).toNat.testBit k) := by
  unfold docBit
  have h1 : width * i + k < width * l.length := by
    have : width * (i + 1) ≤ width * l.length := Nat.mul_le_mul_left _ hi
    rw [Nat.mul_add, Nat.mul_one] at this
    omega
  rw [if_pos h1, Nat.mul_add_div (by omega), Nat.div_eq_of_lt hk, Nat.mul_add_mod, Nat.mod_eq_of_lt hk, Nat.add_zero]
theorem dbits_step (width : Nat) (l : List Int) (i k x : Nat) (hi : i < l.length) (hk : k < width) (hx : l.getD i 0 = (x : Int)) : (dbits width l).take (width * i + (k + 1)) = (dbits width l).take (width * i + k) ++ [((x / 2 ^ k % 2 : Nat) : Int)] := by
  have h1 : width * i + k < width * l.length := by
    have : width * (i + 1) ≤ width * l.length := Nat.mul_le_mul_left _ hi
    rw [Nat.mul_add, Nat.mul_one] at this
    omega
  rw [← Nat.add_assoc, take_succ_getD _ _ 0 (by rw [dbits_len]; exact h1)]
  congr 2
  have hb := docBit_at width l i k hi hk
  rw [hx, Int.toNat_natCast, Nat.testBit_eq_decide_div_mod_eq] at hb
  unfold dbits
  rw [List.getD_eq_getElem?_getD, List.getElem?_map, List.getElem?_range h1, Option.map_some, Option.getD_some, hb]
  by_cases h : x / 2 ^ k % 2 = 1
  · rw [if_pos (by simpa using h), h]; rfl
  · rw [if_neg (by simpa using h)]
    omega
theorem dbits_get (width : Nat) (l : List Int) (b : Nat) (h : b < width * l.length) : (dbits width l).getD b 0 = if docBit width l b = true then 1 else 0 := by
  unfold dbits
  rw [List.getD_eq_getElem?_getD, List.getElem?_map, List.getElem?_range h, Option.map_some, Option.getD_some]
/-- The last bits of a byte, from above. -/
def chr (f : Nat → Bool) : Nat → Nat
  | 0 => 0
  | j + 1 => (f (7 - j)).toNat + 2 * chr f j
theorem chr_all (f : Nat → Bool) : chr f 8 = byteOf f := rfl
theorem chr_step (f : Nat → Bool) (k : Nat) (h : k < 8) : chr f (8 - k) = (f k).toNat + 2 * chr f (8 - (k + 1)) := by
  rw [show 8 - k = (8 - (k + 1)) + 1 by omega]
  show (f (7 - (8 - (k + 1)))).toNat + _ = _
  rw [show 7 - (8 - (k + 1)) = k by omega]
theorem chr_lt (f : Nat → Bool) : ∀ j, chr f j < 2 ^ j
  | 0 => by simp [chr]
  | j + 1 => by
    have := chr_lt f j
    have h2 : (f (7 - j)).toNat ≤ 1 := Bool.toNat_le _
    unfold chr
    rw [Nat.pow_succ]
    omega
theorem docBit_out (width : Nat) (l : List Int) (b : Nat) (h : width * l.length ≤ b) : docBit width l b = false := by
  unfold docBit
  rw [if_neg (by omega)]

theorem Own.apart2 {w : World} {b1 b2 e1 e2 : Nat} {k1 k2 : IntKind} {v1 v2 : Value} {xs ys : List Int} (h1 : Own w b1 e1 k1 v1 xs) (h2 : Own w b2 e2 k2 v2 ys) (hne : e1 ≠ e2) : ∀ b, v1.ownBlock = some b → ¬ v2.ownBlock = some b := by
  intro b hb1 hb2
  rcases h1.row.2 with ⟨rfl, _⟩ | ⟨g, cap, cur, rfl, _, hg, _⟩
  · simp [Value.ownBlock] at hb1
  · rcases h2.row.2 with ⟨rfl, _⟩ | ⟨g', cap', cur', rfl, _, hg', _⟩
    · simp [Value.ownBlock] at hb2
    · simp only [Value.ownBlock, Option.some.injEq] at hb1 hb2
      have e : g = g' := by rw [show g = b from hb1, show g' = b from hb2]
      subst e
      rw [hg] at hg'
      simp only [Option.some.injEq, Obj.cells.injEq] at hg'
      exact hne hg'.2.1
set_option maxHeartbeats 8000000 in
theorem ref12Bytes_calls (W : Nat) (h1 : 1 ≤ W) (h2 : W ≤ 31) (B : Option Addr) (d : Nat) (l : List Int) (w : World) (hm : Rd w .i64 B d l) (hl : l.length ≤ 65536) (HF : Hid (∀ x ∈ l, 0 ≤ x)) :
    Calls Try.prog 84 #[.int .i64 W, .slice B l.length d] w (RetOwn w 5 .u8 (docBytes W l)) := by
  have hML : W * l.length ≤ 31 * 65536 := Nat.mul_le_mul h2 hl
  have HDL := Lib.hid (dbits_len W l)
  go_enter Try.func84, Try.ntmps84
  go_wp2_with fail
  go_loopw [5, 6, 7, 8] (fun bs i _ _ wr => ∃ t : Nat, t ≤ l.length ∧ i = .int .i64 t ∧ Own wr w.heap.size 3 .i64 bs ((dbits W l).take (W * t)) ∧ Up w wr) (fun _ i _ _ _ => l.length - (intOf i).toNat)
  case atStart => exact ⟨0, Nat.zero_le _, rfl, by rw [Nat.mul_zero, List.take_zero]; exact Own.nil _ _ _ _, Up.refl _⟩
  case round =>
    obtain ⟨t, ht, rfl, ho, hu⟩ := hrel
    by_cases hlt : t < l.length
    · obtain ⟨ad, x, rfl, hc, HX, hxr⟩ := (hm.up hu).get t hlt
      have hx0 := HF.out x (by rw [← HX.out]; exact (by rw [List.getD_eq_getElem?_getD, List.getElem?_eq_getElem hlt]; exact List.getElem_mem _))
      obtain ⟨X, rfl⟩ := Int.eq_ofNat_of_zero_le hx0
      have hxb := hxr.i64
      have HO := Lib.hid ho
      have HU := Lib.hid hu
      clear ho hx0 hxr
      go_wp2_with fail
      go_loopw [5, 7, 8] (fun bs n k wx => ∃ kk m : Nat, kk ≤ W ∧ k = .int .i64 kk ∧ n = .int .i64 m ∧ Hid (m = X / 2 ^ kk) ∧ m ≤ X ∧ Own wx w.heap.size 3 .i64 bs ((dbits W l).take (W * t + kk)) ∧ Up w wx) (fun _ _ k _ => W - (intOf k).toNat)
      case atStart => exact ⟨0, X, Nat.zero_le _, rfl, rfl, Lib.hid (by simp), Nat.le_refl _, HO.out, HU.out⟩
      case round =>
        clear hc hu HO HU
        obtain ⟨kk, m, hk, rfl, rfl, HM, hmX, ho, hu⟩ := hrel
        by_cases hlk : kk < W
        · have HST := Lib.hid (dbits_step W l t kk X hlt hlk HX.out)
          have HLB := Lib.hid (show ((dbits W l).take (W * t + kk)).length ≤ 31 * 65536 by rw [List.length_take, HDL.out]; omega)
          have HMD := Lib.hid (show ((X / 2 ^ kk % 2 : Nat) : Int) = (m : Int) % 2 by rw [← HM.out]; simp)
          have HMS := Lib.hid (show m / 2 = X / 2 ^ (kk + 1) by rw [HM.out, Nat.pow_succ, Nat.div_div_eq_div_mul])
          have hlo := ho.lt
          generalize (dbits W l).take (W * t + kk) = D at *
          go_wp2_with (refine wpl_push_int (t := 23) w.heap.size 3 .i64 8 Try.underlying23 infoInt u5 D ((m : Int) % 2) rfl (InK.of_i64 (by omega) (by omega)) (fun _ => rfl) (fun _ => rfl) ho (by have := HLB.out; omega) (by decide) hu.size ?_; intro v1 w1 hv1 hu1)
          refine ⟨⟨kk + 1, m / 2, by omega, by simp, by simp, HMS, by omega, by rw [HST.out, HMD.out]; exact hv1, hu.thenx hu1 fun i hi e => by have := (hlo i e).1; omega⟩, ?_⟩
          simp [intOf]; omega
        · have hke : kk = W := by omega
          subst hke
          have HO := Lib.hid ho
          clear ho
          go_wp2_with fail
          refine ⟨⟨t + 1, by omega, by simp, by rw [Nat.mul_add, Nat.mul_one]; exact HO.out, hu⟩, ?_⟩
          simp [intOf]; omega
    · have hte : t = l.length := by omega
      subst hte
      rw [show (dbits W l).take (W * l.length) = dbits W l by rw [← HDL.out, List.take_length]] at ho
      have hw8 : (W : Int) % 256 = (W : Int) := by omega
      have HDX : Hid (∀ t, t < W * l.length → (dbits W l).getD t 0 = if docBit W l t = true then 1 else 0) := Lib.hid (dbits_get W l)
      have hdl := HDL.out
      generalize dbits W l = DB at *
      obtain ⟨A5, c5, rfl, hr5⟩ := ho.rd
      have hoW : Own (wr.alloc (.cells #[.int .u8 W] 5)) w.heap.size 5 .u8 (.slice (some ⟨wr.heap.size, 0, none⟩) 1 1) [(W : Int)] := Own.lit wr w.heap.size 5 .u8 [(W : Int)] hu.size (by simp) (by simpa using InK.of_u8 (x := (W : Int)) (by omega) (by omega)) 1 rfl _ rfl
      have hua : Up wr (wr.alloc (.cells #[.int .u8 W] 5)) := (Up.refl wr).alloc _
      have HO5 := Lib.hid ho
      clear ho
      go_wp2_with fail
      have HVL := Lib.hid (vput_len10 l.length (by omega))
      refine (ref2Put_calls l.length _ (by omega)).mono ?_
      rintro en w3 ⟨v3, rfl, hv3, hu3⟩
      obtain ⟨A3, c3, rfl, hr3⟩ := hv3.rd
      have hUA := hua.trans hu3
      have hoA := hoW.up hu3
      have hr53 := hr5.up hUA
      have hU3 := hu.trans hUA
      have hloA := hoA.lt
      clear hv3 hoW hua hu3 hr5 hu
      have hvl := HVL.out
      go_wp2_with (refine wpl_append (t := 76) w.heap.size 5 .u8 1 Try.underlying76 infoU8 _ [(W : Int)] rfl hoA A3 _ c3 (vput l.length) rfl rfl hr3 (by simp; omega) (by decide) hU3.size ?_; intro v9 w9 hv9 hu9 _)
      have hU9 : Up w w9 := hU3.thenx hu9 fun i hi e => by have := (hloA i e).1; omega
      have HO9 := Lib.hid ((HO5.out.up hUA).upx hu9 (Own.apart2 (HO5.out.up hUA) hoA (by decide)))
      clear hu9 hoA hr3 hloA hUA hU3 hr53 HO5
      have HXE := Lib.hid (show docBytes W l = ([(W : Int)] ++ vput l.length) ++ (List.range ((W * l.length + 7) / 8)).map fun i => (byteOf (fun k => docBit W l (8 * i + k)) : Int) from by unfold docBytes; simp)
      have HXL := Lib.hid (show ([(W : Int)] ++ vput l.length).length ≤ 11 by simp; omega)
      have HBO := Lib.hid fun b (hb : W * l.length ≤ b) => docBit_out W l b hb
      generalize [(W : Int)] ++ vput l.length = X at *
      generalize W * l.length = M at *
      try rw [hdl]
      clear hdl
      go_wp2_with fail
      go_loopw [9, 10, 11, 12] (fun o i _ _ wr => ∃ t : Nat, 8 * t ≤ M + 7 ∧ i = .int .i64 (8 * t : Nat) ∧ Own wr w.heap.size 5 .u8 o (X ++ (List.range t).map fun i => (byteOf (fun k => docBit W l (8 * i + k)) : Int)) ∧ Hid (Own wr w.heap.size 3 .i64 (.slice A5 DB.length c5) DB) ∧ Up w wr) (fun _ i _ _ _ => M + 8 - (intOf i).toNat)
      case atStart => exact ⟨0, by omega, rfl, by simpa using hv9, HO9, hU9⟩
      case round =>
        clear hv9 HO9
        obtain ⟨t, ht, rfl, ho, HO9, hu⟩ := hrel
        by_cases hlt : 8 * t < M
        · have hr5r : Rd wr .i64 A5 c5 DB := by
            obtain ⟨A', c', e, hr⟩ := HO9.out.rd
            cases e
            exact hr
          have HO := Lib.hid ho
          have HOL := ho.lt
          clear ho
          go_wp2_with fail
          go_loopw [11, 12] (fun c k wx => ∃ j : Nat, j ≤ 8 ∧ k = .int .i64 ((j : Int) - 1) ∧ c = .int .i64 (chr (fun k => docBit W l (8 * t + k)) (8 - j) : Nat) ∧ wx = wr) (fun _ k _ => (intOf k + 1).toNat)
          case atStart => exact ⟨8, Nat.le_refl _, rfl, rfl, rfl⟩
          case round =>
            obtain ⟨j, hj, rfl, rfl, rfl⟩ := hrel
            cases j with
            | zero =>
              have e0 : ((0 : Nat) : Int) - 1 = -1 := rfl
              rw [e0]
              clear e0
              have hcl := chr_lt (fun k => docBit W l (8 * t + k)) 8
              have HCB := Lib.hid (chr_all (fun k => docBit W l (8 * t + k)))
              rw [Nat.sub_zero]
              generalize chr (fun k => docBit W l (8 * t + k)) 8 = cv at *
              have hc8 : (cv : Int) % 256 = (cv : Int) := by omega
              have HU := Lib.hid hu
              have hsz := hu.size
              have HLN := Lib.hid (show (X ++ (List.range t).map fun i => (byteOf (fun k => docBit W l (8 * i + k)) : Int)).length ≤ 3000000 by have := HXL.out; simp at this ⊢; omega)
              have HNX := Lib.hid (show (X ++ (List.range (t + 1)).map fun i => (byteOf (fun k => docBit W l (8 * i + k)) : Int)) = (X ++ (List.range t).map fun i => (byteOf (fun k => docBit W l (8 * i + k)) : Int)) ++ [(cv : Int)] by rw [List.range_succ, List.map_append, List.append_assoc, List.map_singleton, HCB.out])
              generalize (X ++ (List.range t).map fun i => (byteOf (fun k => docBit W l (8 * i + k)) : Int)) = D at *
              have hib : InK .u8 (cv : Int) := InK.of_u8 (by omega) (by omega)
              go_wp2_with (refine wpl_push_int (t := 76) w.heap.size 5 .u8 1 Try.underlying76 infoU8 u9 D (cv : Int) (by first | rfl | exact congrArg (Value.int .u8) hc8) hib (fun _ => rfl) (fun _ => rfl) HO.out (by have := HLN.out; omega) (by decide) hsz ?_; intro v7 w7 hv7 hu7)
              refine ⟨⟨t + 1, by omega, by first | rfl | (simp; omega) | simp, by rw [HNX.out]; exact hv7, Lib.hid (HO9.out.upx hu7 (Own.apart2 HO9.out HO.out (by decide))), HU.out.thenx hu7 fun i hi e => by have := (HOL i e).1; omega⟩, ?_⟩
              simp [intOf]; omega
            | succ k =>
              have hkk : ((k + 1 : Nat) : Int) - 1 = (k : Int) := by omega
              rw [hkk]
              clear hkk
              have hcl := chr_lt (fun k => docBit W l (8 * t + k)) (8 - (k + 1))
              have hc8 : 2 ^ (8 - (k + 1)) ≤ 2 ^ 8 := Nat.pow_le_pow_right (by decide) (by omega)
              have hcb : chr (fun k => docBit W l (8 * t + k)) (8 - (k + 1)) < 256 := Nat.lt_of_lt_of_le hcl hc8
              have HCS := Lib.hid (chr_step (fun k => docBit W l (8 * t + k)) k (by omega))
              clear hcl hc8
              generalize chr (fun k => docBit W l (8 * t + k)) (8 - (k + 1)) = cv at *
              by_cases hin : 8 * t + k < M
              · obtain ⟨ad, v, rfl, hcv, HV, _⟩ := hr5r.get (8 * t + k) (by rw [HDL.out]; exact hin)
                have hv := HDX.out (8 * t + k) hin
                rw [HV.out] at hv
                have hin2 : 8 * (t : Int) + (k : Int) < (M : Int) := by omega
                cases hb : docBit W l (8 * t + k) with
                | true =>
                  rw [hb] at hv
                  obtain rfl : v = 1 := hv
                  have HN := Lib.hid (show chr (fun k => docBit W l (8 * t + k)) (8 - k) = 2 * cv + 1 by rw [HCS.out]; simp only [hb]; simp; omega)
                  clear hb
                  go_wp2_with fail
                  refine ⟨⟨k, by omega, by simp, by rw [HN.out]; simp, trivial⟩, ?_⟩
                  simp [intOf]
                | false =>
                  rw [hb] at hv
                  obtain rfl : v = 0 := hv
                  have HN := Lib.hid (show chr (fun k => docBit W l (8 * t + k)) (8 - k) = 2 * cv by rw [HCS.out]; simp only [hb]; simp)
                  clear hb
                  go_wp2_with fail
                  refine ⟨⟨k, by omega, by simp, by rw [HN.out]; simp, trivial⟩, ?_⟩
                  simp [intOf]
              · have hb := HBO.out (8 * t + k) (by omega)
                have HN := Lib.hid (show chr (fun k => docBit W l (8 * t + k)) (8 - k) = 2 * cv by rw [HCS.out]; simp only [hb]; simp)
                clear hb
                go_wp2_with fail
                refine ⟨⟨k, by omega, by simp, by rw [HN.out]; simp, trivial⟩, ?_⟩
                simp [intOf]
        · have HO := Lib.hid ho
          have HE := Lib.hid (show t = (M + 7) / 8 by omega)
          have HU := Lib.hid hu
          clear ho hu
          go_wp2_with fail
          go_ret
          exact ⟨_, rfl, by rw [HXE.out, ← HE.out]; exact HO.out, HU.out⟩
end Go.Proofs.Ytneliajeokajbaa
