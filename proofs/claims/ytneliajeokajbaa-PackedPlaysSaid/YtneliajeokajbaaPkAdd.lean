/- Layer 12: Add. -/
import Derived.Test.YtneliajeokajbaaPkNew
import Derived.Test.YtneliajeokajbaaZeros
namespace Go.Proofs.Ytneliajeokajbaa
open Go.RowKit
set_option maxRecDepth 100000

/-- The words' bits are the numbers'. -/
def PkBits (width n : Nat) (ws l : List Int) : Prop := ∀ b, wbit ws b = if b < width * n then (l.getD (b / width) 0).toNat.testBit (b % width) else false
theorem PkBits.snoc {width n : Nat} {ws ws' l : List Int} {v : Nat} (hl : l.length = n) (h1 : 1 ≤ width) (hb : PkBits width n ws l)
    (hp : ∀ b, wbit ws' b = if width * n ≤ b ∧ b < width * n + width then v.testBit (b - width * n) else wbit ws b) : PkBits width (n + 1) ws' (l ++ [(v : Int)]) := by
  intro b
  rw [hp b, hb b, Nat.mul_add, Nat.mul_one]
  by_cases h2 : b < width * n
  · have h3 : b / width < n := by rw [Nat.div_lt_iff_lt_mul (by omega), Nat.mul_comm]; exact h2
    rw [if_neg (by omega), if_pos h2, if_pos (by omega)]
    simp [List.getD_eq_getElem?_getD, List.getElem?_append_left (show b / width < l.length by omega)]
  · by_cases h4 : b < width * n + width
    · have h5 : b / width = n := Nat.div_eq_of_lt_le (by rw [Nat.mul_comm]; omega) (by rw [Nat.add_mul, Nat.mul_comm n width]; omega)
      have h6 : b % width = b - width * n := by
        have := Nat.mod_add_div b width
        rw [h5] at this
        omega
      rw [if_pos ⟨by omega, h4⟩, if_pos h4, h5, h6]
      simp [List.getD_eq_getElem?_getD, ← hl]
    · rw [if_neg (by omega), if_neg h2, if_neg h4]

structure AddPost (w : World) (g base width n : Nat) (ws l m : List Int) (e : Ending) (w' : World) : Prop where mk ::
  up : UpX (fun b => b = g ∨ base ≤ b) w w'
  out : (fitB width m = false ∧ e = .returned (.int .i64 10) ∧ PArr w' g base width n ws) ∨
    (fitB width m = true ∧ 65536 < n + m.length ∧ e = .returned (.int .i64 2) ∧ PArr w' g base width n ws) ∨
    (fitB width m = true ∧ n + m.length ≤ 65536 ∧ e = .returned (.int .i64 0) ∧ ∃ ws', PArr w' g base width (n + m.length) ws' ∧ PkOk width (n + m.length) ws' (l ++ m))

theorem fit1_get {width : Nat} {m : List Int} (h : fitB width m = true) (k : Nat) (hk : k < m.length) : 0 ≤ m.getD k 0 ∧ m.getD k 0 < 2 ^ width := by
  have h1 : ∀ x ∈ m, fit1 width x = true := by simpa [fitB] using h
  have h2 := h1 (m.getD k 0) (by rw [List.getD_eq_getElem?_getD, List.getElem?_eq_getElem hk]; exact List.getElem_mem _)
  unfold fit1 at h2
  simpa using h2
/-- Where the loop of Add stands. -/
structure AddRel (w : World) (g base width n T : Nat) (l m : List Int) (k : Nat) (wr : World) : Prop where mk ::
  out : ∃ ws' A' c', Blk wr g 119 #[.int .i64 width, .int .i64 ((n + k : Nat) : Int), .slice A' ws'.length c'] ∧ Own wr base 71 .u64 (.slice A' ws'.length c') ws' ∧ ws'.length = T ∧ PkBits width (n + k) ws' (l ++ m.take k)
  up : UpX (fun b => b = g ∨ base ≤ b) w wr

set_option maxHeartbeats 4000000 in
theorem packedAdd_calls (g base width n : Nat) (ws l m : List Int) (A : Option Addr) (c : Nat) (B : Option Addr) (d : Nat) (w : World) (hb : Blk w g 119 #[.int .i64 width, .int .i64 n, .slice A ws.length c]) (ho : Own w base 71 .u64 (.slice A ws.length c) ws)
    (hk : PkOk width n ws l) (h1 : 1 ≤ width) (h2 : width ≤ 31) (hn : n ≤ 65536) (hbase : base ≤ w.heap.size) (hm : Rd w .i64 B d m) (hB : ∀ ad, B = some ad → 0 < m.length → ad.block < base ∧ ad.block ≠ g) :
    Calls Try.prog 47 #[.pointer (some ⟨g, 0, none⟩), .slice B m.length d] w (AddPost w g base width n ws l m) := by
  have g0 : w.cell? ⟨g, 0, none⟩ = some (.int .i64 width) := hb.cell 0
  have g1 : w.cell? ⟨g, 1, none⟩ = some (.int .i64 n) := hb.cell 1
  have g2 : w.cell? ⟨g, 2, none⟩ = some (.slice A ws.length c) := hb.cell 2
  have hml := hm.len
  have HB := Lib.hid hB
  clear hB
  go_enter Try.func47, Try.ntmps47
  go_wp2_with fail
  refine (packedFits_calls B d m width w hm h2).mono ?_
  rintro e w1 ⟨rfl, hu1⟩
  have hb1 := hb.up hu1
  have ho1 := ho.up hu1
  have hm1 := hm.up hu1
  have g01 := hu1.cell g0
  have g11 := hu1.cell g1
  have g21 := hu1.cell g2
  cases hf : fitB width m with
  | false =>
    have HF := Lib.hid hf
    clear hf
    go_wp2_with fail
    go_ret
    exact ⟨hu1.x _, .inl ⟨HF.out, rfl, ⟨A, c, hb1, ho1⟩⟩⟩
  | true =>
    have HF := Lib.hid hf
    clear hf
    by_cases hlong : n + m.length ≤ 65536
    · have hw0 : width * (n + m.length) ≤ 31 * 65536 := Nat.mul_le_mul h2 hlong
      have em : (width : Int) * ((n : Int) + (m.length : Int)) = ((width * (n + m.length) : Nat) : Int) := by simp
      have hlg : decide (65536 - (n : Int) < (m.length : Int)) = false := decide_eq_false (by omega)
      have HWN := Lib.hid (show (width * n + 63) / 64 ≤ (width * (n + m.length) + 63) / 64 by rw [Nat.mul_add]; omega)
      have HSZ := Lib.hid hk.size
      generalize hW : width * (n + m.length) = W at *
      have HW := Lib.hid hW
      clear hW
      have hwl : ws.length ≤ (W + 63) / 64 := by rw [HSZ.out]; exact HWN.out
      have edv : ((W : Int) + 64 - 1) / 64 = (((W + 63) / 64 : Nat) : Int) := by omega
      go_wp2_with fail
      go_quiet (fail)
      go_wp2_with fail
      rw [edv]
      clear edv
      have HT9 := Lib.hid (show (W + 63) / 64 ≤ 40000 by omega)
      have HWT := Lib.hid (show W ≤ 64 * ((W + 63) / 64) by omega)
      generalize hTT : (W + 63) / 64 = T at *
      have HTT := Lib.hid hTT
      clear hTT
      have hT9 := HT9.out
      refine wp_region_tree (Cells [(⟨g, 2, none⟩, .slice A ws.length c)]) (.quiet 0 (.quiet 1 (.quiet 2 (.quiet 3 (.quiet 4 (.quiet 5 (.quiet 6 (.quiet 7 (.quiet 8 (.quiet 9 (.quiet 10 (.quiet 11 (.alt 12 (.quiet 13 (.quiet 14 (.alt 15 (.nil) (.stop)))) (.stop)))))))))))))) (by kernel_rfl) (by kernel_rfl) rfl (by kernel_rfl) (by kernel_rfl) (Cells.cons g21 (Cells.nil _)) ?_
      simp only [pickT, List.getElem?_cons_succ, List.getElem?_cons_zero, Option.getD_some]
      repeat (refine tree_step rfl (fun K hK => ?_); go_big_quiet_step ((intro _; rfl)); refine wpQuiet_nil (hK _ ?_); clear hK K)
      refine tree_load ⟨g, 2, none⟩ (.slice A ws.length c) (by kernel_rfl) rfl (by kernel_rfl) (fun w' h => h.head) ?_
      dsimp only [Act.put]
      simp only [List.setIfInBounds_toArray, List.set_cons_zero, List.set_cons_succ]
      repeat (refine tree_step rfl (fun K hK => ?_); go_big_quiet_step ((intro _; rfl)); refine wpQuiet_nil (hK _ ?_); clear hK K)
      refine tree_load ⟨g, 2, none⟩ (.slice A ws.length c) (by kernel_rfl) rfl (by kernel_rfl) (fun w' h => h.head) ?_
      dsimp only [Act.put]
      simp only [List.setIfInBounds_toArray, List.set_cons_zero, List.set_cons_succ]
      repeat (refine tree_step rfl (fun K hK => ?_); go_big_quiet_step ((intro _; rfl)); refine wpQuiet_nil (hK _ ?_); clear hK K)
      refine tree_do (fun K hK => ?_)
      have hq9 : Up w1 (w1.drewN nq).drew := ((Up.refl _).drewN _).drew
      have hud := hu1.trans hq9
      have hbd := hb1.up hq9
      have hod := ho1.up hq9
      have hmd := hm1.up hq9
      have g2d : (w1.drewN nq).drew.cell? ⟨g, 2, none⟩ = some (.slice A ws.length c) := hbd.cell 2
      generalize (w1.drewN nq).drew = wd at *
      go_wp2_with (refine wpl_append_zeros (t := 117) (tn := 3) base 71 .u64 8 Try.underlying117 Try.underlying3 (by kernel_rfl) _ ws rfl hod (T - ws.length) _ rfl (by omega) (by omega) (by decide) (by have := hud.size; omega) ?_; intro v2 w2 hv2 hu2 hn2)
      have hne : ¬ (Value.slice A ws.length c).ownBlock = some g := fun e => by
        have h3 := hod.typed g e
        have h4 : Typed wd 119 g := ⟨_, _, hbd.out⟩
        exact absurd (h3.ne h4) (by decide)
      have hb2 := hbd.upx hu2 hne
      have hm2 : Rd w2 .i64 B d m := hmd.upx hu2 fun ad e0 h0 e => by
        have h3 := (HB.out ad e0 h0).1
        have h4 := (hod.lt _ e).1
        omega
      obtain ⟨A2, c2, rfl, hr2⟩ := hv2.rd
      have HTL := Lib.hid (show (ws ++ List.replicate (T - ws.length) 0).length = T by rw [List.length_append, List.length_replicate]; omega)
      rw [HTL.out] at hv2 hn2
      have g22 : w2.cell? ⟨g, 2, none⟩ = some (.slice A ws.length c) := hb2.cell 2
      have f22 := hb2.frozen 2
      refine ⟨Cells.cons g22 (Cells.nil _), ?_⟩
      dsimp only [Act.put]
      simp only [List.setIfInBounds_toArray, List.set_cons_zero, List.set_cons_succ]
      repeat (refine tree_step rfl (fun K hK => ?_); go_big_quiet_step ((intro _; rfl)); refine wpQuiet_nil (hK _ ?_); clear hK K)
      refine tree_do (fun K hK => ?_)
      go_wp2_with fail
      refine ⟨trivial, ?_⟩
      refine tree_nil ?_
      go_wp2_with fail
      have hb3 := hb2.set 2 (.slice A2 T c2)
      have ho3 : Own (w2.setCell ⟨g, 2, none⟩ (.slice A2 T c2)) base 71 .u64 (.slice A2 T c2) (ws ++ List.replicate (T - ws.length) 0) := hv2.upx (UpX.one w2 g 2 _) (fun b hb9 e9 => by
        have h4 := hv2.typed b hb9
        have h5 : Typed w2 119 g := ⟨_, _, hb2.out⟩
        rw [e9] at h4
        exact absurd (h5.ne h4) (by decide))
      have hrel0 : AddRel w g base width n T l m 0 (w2.setCell ⟨g, 2, none⟩ (.slice A2 T c2)) := by
        refine ⟨⟨ws ++ List.replicate (T - ws.length) 0, A2, c2, ?_, ?_, HTL.out, ?_⟩, ?_⟩
        · rw [HTL.out]; simpa using hb3
        · rw [HTL.out]; exact ho3
        · intro b
          rw [wbit_append_zeros, hk.bits b]
          simp
        · exact ((hud.x _).then_ hu2 (fun i _ e => .inr (hod.lt i e).1)).setCell (fun _ => .inl rfl) _
      generalize (w2.setCell ⟨g, 2, none⟩ (.slice A2 T c2)) = w3 at *
      clear hb3 ho3 hb2 hv2 hn2 hu2 hm2 g22 f22 hr2 hbd hod hmd g2d hne
      try rw [HTL.out]
      try simp only [List.length_append, List.length_replicate]
      go_loopw [7, 60] (fun _ i wr => ∃ k : Nat, k ≤ m.length ∧ i = .int .i64 k ∧ AddRel w g base width n T l m k wr) (fun _ i _ => m.length - (intOf i).toNat)
      case atStart => exact ⟨0, by omega, rfl, hrel0⟩
      case round =>
        obtain ⟨k, hkl, rfl, ⟨ws', A', c', hbr, hor, hlr, hbits⟩, hur⟩ := hrel
        by_cases hlt : k < m.length
        · have hmr := hm.upx hur (fun ad e0 h0 e => by
            have h3 := HB.out ad e0 h0
            rcases e with e | e
            · exact h3.2 e
            · omega)
          obtain ⟨ad, x, rfl, hcell, HX, hxr⟩ := hmr.get k hlt
          have HF1 := Lib.hid (fit1_get HF.out k hlt)
          rw [HX.out] at HF1
          obtain ⟨hx0, hx1⟩ := HF1.out
          obtain ⟨v, rfl⟩ := Int.eq_ofNat_of_zero_le hx0
          have HV : Hid (v < 2 ^ width) := Lib.hid (by exact_mod_cast hx1)
          clear hx1 HF1
          have gr1 : wr.cell? ⟨g, 1, none⟩ = some (.int .i64 ((n + k : Nat) : Int)) := hbr.cell 1
          have HLR := Lib.hid hlr
          clear hlr
          have HPB := Lib.hid hbits
          clear hbits
          have HWK := Lib.hid (show width * (n + k) + width ≤ W by
            have h3 := HW.out
            have h4 : width * (n + k + 1) ≤ width * (n + m.length) := Nat.mul_le_mul_left _ (by omega)
            rw [Nat.mul_add, Nat.mul_one] at h4
            omega)
          go_wp2_with fail
          refine (packedPut_calls g base width (n + k) (n + k) v ws' A' c' wr hbr hor h1 h2 (by omega) HV.out (by have h3 := HWK.out; have h4 := HWT.out; have h5 := HLR.out; omega)).mono ?_
          rintro e wp ⟨rfl, ⟨ws2, ⟨A3, c3, hbp, hop⟩, hl2, hbits2⟩, hup⟩
          have gp1 : wp.cell? ⟨g, 1, none⟩ = some (.int .i64 ((n + k : Nat) : Int)) := hbp.cell 1
          have fp1 := hbp.frozen 1
          have HL2 := Lib.hid hl2
          clear hl2
          have HB2 := Lib.hid hbits2
          clear hbits2
          go_wp2_with fail
          go_roundw
          case rel =>
            refine ⟨k + 1, by omega, rfl, ⟨ws2, A3, c3, ?_, ?_, by rw [HL2.out, HLR.out], ?_⟩, ?_⟩
            · have h9 := hbp.set 1 (.int .i64 ((n : Int) + (k : Int) + 1))
              rw [show (((n + (k + 1) : Nat)) : Int) = (n : Int) + (k : Int) + 1 by omega]
              simpa using h9
            · exact hop.upx (UpX.one wp g 1 _) (fun b hb9 e9 => by
                have h4 := hop.typed b hb9
                have h5 : Typed wp 119 g := ⟨_, _, hbp.out⟩
                rw [e9] at h4
                exact absurd (h5.ne h4) (by decide))
            · have h9 := HPB.out.snoc (v := v) (by rw [List.length_append, List.length_take, hk.len]; omega) h1 HB2.out
              rw [take_succ_getD m k 0 hlt, HX.out, ← List.append_assoc]
              exact h9
            · exact (hur.then_ hup (fun i _ e => .inr e)).setCell (fun _ => .inl rfl) _
          case measure => simp [intOf]; omega
        · have hke : k = m.length := by omega
          subst hke
          go_wp2_with fail
          go_ret
          refine ⟨hur, .inr (.inr ⟨HF.out, hlong, rfl, ws', ⟨A', c', by simpa using hbr, hor⟩, ?_⟩)⟩
          refine ⟨by rw [List.length_append, hk.len], by rw [hlr, ← HTT.out, ← HW.out], fun x hx => ?_, ?_⟩
          · rcases List.mem_append.1 hx with h3 | h3
            · exact hk.fit x h3
            · obtain ⟨i, hi, rfl⟩ := List.getElem_of_mem h3
              have h4 := fit1_get HF.out i hi
              rw [List.getD_eq_getElem?_getD, List.getElem?_eq_getElem hi] at h4
              exact h4
          · rw [List.take_length] at hbits
            exact hbits
    · have hlg : decide (65536 - (n : Int) < (m.length : Int)) = true := decide_eq_true (by omega)
      have hl2 : 65536 - (n : Int) < (m.length : Int) := by omega
      have HLO := Lib.hid hlong
      clear hlong
      go_wp2_with fail
      go_ret
      exact ⟨hu1.x _, .inr (.inl ⟨HF.out, by have := HLO.out; omega, rfl, ⟨A, c, hb1, ho1⟩⟩)⟩
end Go.Proofs.Ytneliajeokajbaa
