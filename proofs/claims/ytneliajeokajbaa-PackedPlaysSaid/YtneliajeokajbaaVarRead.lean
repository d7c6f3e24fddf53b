/- The reader of varint: walks of take, left, end, number. -/
import Derived.Test.YtneliajeokajbaaVarPlain
import Derived.Test.YtneliajeokajbaaLib1
import Derived.WalkMore
import Derived.Deep.LoopGhost
namespace Go.Proofs.Ytneliajeokajbaa
open Go.RowKit
set_option maxRecDepth 100000

/-- A reader: the bytes that are left, and the error. -/
structure Rdr (w : World) (g : Nat) (l : List Int) (e : Int) : Prop where mk ::
  out : ∃ A c, Blk w g 130 #[.slice A l.length c, .int .i64 e] ∧ Rd w .u8 A c l ∧ ∀ ad, A = some ad → 0 < l.length → ad.block < g

theorem Rdr.upx {F : Nat → Prop} {w w' : World} {g : Nat} {l : List Int} {e : Int} (h : Rdr w g l e) (hu : UpX F w w') (hF : ∀ b, b ≤ g → ¬ F b) : Rdr w' g l e := by
  obtain ⟨A, c, hB, hrd, hlt⟩ := h.out
  exact ⟨A, c, hB.upx hu (hF g (Nat.le_refl _)), hrd.upx hu fun ad h0 hp => hF _ (Nat.le_of_lt (hlt ad h0 hp)), hlt⟩

set_option maxHeartbeats 400000 in
theorem varLeft_calls (g : Nat) (l : List Int) (e : Int) (w : World) (hg : Rdr w g l e) (hb : l.length ≤ 140737488355328) :
    Calls Try.prog 109 #[.pointer (some ⟨g, 0, none⟩)] w (RetOwn w 5 .u8 l) := by
  obtain ⟨A, c, hB, hrd, hne⟩ := hg.out
  have c0 := hB.cell 0
  go_enter Try.func109, Try.ntmps109
  go_wp2_with fail
  refine (bytesClone_n hrd hb rfl).mono ?_
  rintro e w1 ⟨v, rfl, hv, hu⟩
  obtain ⟨B, d, rfl, hd⟩ := hv.rd
  go_wp2_with fail
  go_ret
  exact RetOwn.of hv hu

set_option maxHeartbeats 400000 in
theorem varTake_calls (g n : Nat) (l : List Int) (e : Int) (w : World) (hg : Rdr w g l e) (hb : l.length ≤ 140737488355328) (hn : n ≤ l.length) :
    Calls Try.prog 108 #[.pointer (some ⟨g, 0, none⟩), .int .i64 n] w fun en w' => ∃ v, en = .returned v ∧ Own w' w.heap.size 5 .u8 v (l.take n) ∧ UpX (fun b => b = g) w w' ∧ Rdr w' g (l.drop n) e := by
  obtain ⟨A, c, hB, hrd, hne⟩ := hg.out
  have c0 := hB.cell 0
  have hle := hrd.le
  have hnc : (n : Int) ≤ (c : Int) := by omega
  have hnl : (n : Int) ≤ (l.length : Int) := by omega
  have HL := Lib.hid (show n = (l.take n).length by rw [List.length_take]; omega)
  have h2 := hrd.take n
  go_enter Try.func108, Try.ntmps108
  go_wp2_with fail
  refine (bytesClone_n h2 (by have := HL.out; omega) HL.out).mono ?_
  rintro e w1 ⟨v, rfl, hv, hu⟩
  obtain ⟨B, d, rfl, hd⟩ := hv.rd
  have hB1 := hB.up hu
  have c1 := hB1.cell 0
  have f1 := hB1.frozen 0
  have h3 := (hrd.up hu).drop_ n hn
  have hx1 : ∀ v, UpX (fun b => b = g) w (w1.setCell ⟨g, 0, none⟩ v) := fun v => (hu.x _).trans (UpX.one _ _ _ _)
  have hlt := hB.lt
  have key : ∀ A2 c2, Rd w1 .u8 A2 c2 (l.drop n) → (∀ ad, A2 = some ad → 0 < (l.drop n).length → ad.block < g) → Rdr (w1.setCell ⟨g, 0, none⟩ (.slice A2 (l.length - n) c2)) g (l.drop n) e := by
    intro A2 c2 hr hne2
    refine ⟨A2, c2, ?_, hr.upx (UpX.one _ _ _ _) fun ad h0 hp => Nat.ne_of_lt (hne2 ad h0 hp), hne2⟩
    rw [List.length_drop]
    exact hB1.set 0 _
  have hvx : ∀ v2 v, Own w1 w.heap.size 5 .u8 v2 (l.take n) → Own (w1.setCell ⟨g, 0, none⟩ v) w.heap.size 5 .u8 v2 (l.take n) := fun v2 v h => h.upx (UpX.one _ _ _ _) fun b hb e => by have := (h.lt b hb).1; omega
  have hv2 : Own w1 w.heap.size 5 .u8 (.slice B n d) (l.take n) := by rw [HL.out] at hv ⊢; simpa using hv
  go_wp2_with fail
  · go_ret
    rw [if_pos h] at h3
    subst h
    rw [Nat.sub_self] at h3
    exact ⟨_, rfl, hvx _ _ hv2, hx1 _, key _ _ h3 fun ad h4 h5 => hne ad h4 (by rw [List.length_drop] at h5; omega)⟩
  · go_ret
    rw [if_neg h] at h3
    refine ⟨_, rfl, hvx _ _ hv2, hx1 _, key _ _ h3 ?_⟩
    intro ad h4 h5
    cases A with
    | none => simp at h4
    | some a =>
      simp only [Option.map_some, Option.some.injEq] at h4
      subst h4
      rw [addr_add_block]
      exact hne a rfl (by rw [List.length_drop] at h5; omega)

set_option maxHeartbeats 400000 in
theorem varEnd_bad (g : Nat) (l : List Int) (e : Int) (w : World) (hg : Rdr w g l e) (he : ¬ (e = 0)) :
    Calls Try.prog 95 #[.pointer (some ⟨g, 0, none⟩)] w fun en w' => en = .returned (.tuple #[.slice none 0 0, .int .i64 e]) ∧ Up w w' := by
  obtain ⟨A, c, hB, hrd, hne⟩ := hg.out
  have c1 := hB.cell 1
  go_enter Try.func95, Try.ntmps95
  go_wp2_with fail
  go_quiet (fail)
  go_wp2_with fail
  go_ret2
  exact ⟨rfl, (Up.refl _).drewN _⟩

set_option maxHeartbeats 400000 in
theorem varEnd_ok (g : Nat) (l : List Int) (w : World) (hg : Rdr w g l 0) (hb : l.length ≤ 140737488355328) :
    Calls Try.prog 95 #[.pointer (some ⟨g, 0, none⟩)] w fun en w' => ∃ v, en = .returned (.tuple #[v, .int .i64 0]) ∧ Own w' w.heap.size 5 .u8 v l ∧ Up w w' := by
  obtain ⟨A, c, hB, hrd, hne⟩ := hg.out
  have c1 := hB.cell 1
  go_enter Try.func95, Try.ntmps95
  go_wp2_with fail
  refine (varLeft_calls g l 0 w hg hb).mono ?_
  rintro e w1 ⟨v, rfl, hv, hu⟩
  obtain ⟨B, d, rfl, hd⟩ := hv.rd
  go_wp2_with fail
  go_ret2
  exact ⟨_, rfl, hv, hu⟩

set_option maxHeartbeats 400000 in
theorem varNumber_bad (g gr : Nat) (l : List Int) (e : Int) (w : World) (hg : Rdr w g l e) (he : ¬ (e = 0)) :
    Calls Try.prog 94 #[.pointer (some ⟨g, 0, none⟩), .int .u64 gr] w fun en w' => en = .returned (.int .u64 0) ∧ w = w' := by
  obtain ⟨A, c, hB, hrd, hne⟩ := hg.out
  have c1 := hB.cell 1
  go_enter Try.func94, Try.ntmps94
  go_wp2_with fail
  go_step3
  go_wp2_with fail
  try rw [Exit.noGoto_ret]
  go_ret
  exact ⟨rfl, rfl⟩

/-- What a reading of a number leaves: the number, the rest, the error. -/
structure NumPost (w : World) (g : Nat) (l : List Int) (r : Nat × Nat × Nat) (en : Ending) (w' : World) : Prop where mk ::
  out : en = .returned (.int .u64 r.1) ∧ UpX (fun b => b = g) w w' ∧ Rdr w' g (if r.2.2 = 0 then l.drop r.2.1 else l) r.2.2

set_option maxHeartbeats 2000000 in
theorem varNumber_calls (g gr : Nat) (l : List Int) (w : World) (hg : Rdr w g l 0) (hb : l.length ≤ 140737488355328) (hgr : gr < 18446744073709551616) :
    Calls Try.prog 94 #[.pointer (some ⟨g, 0, none⟩), .int .u64 gr] w (NumPost w g l (vget gr l 0 0)) := by
  obtain ⟨A, c, hB, hrd, hne⟩ := hg.out
  have c0 := hB.cell 0
  have c1 := hB.cell 1
  go_enter Try.func94, Try.ntmps94
  go_wp2_with fail
  go_step3
  go_wp2_with fail
  go_step3
  go_wp2_with fail
  have f1 := hB.frozen 1
  have hset : ∀ e : Int, Rdr (w.setCell ⟨g, 1, none⟩ (.int .i64 e)) g l e := fun e => ⟨A, c, hB.set 1 _, hrd.upx (UpX.one _ _ _ _) fun ad h0 hp => Nat.ne_of_lt (hne ad h0 hp), hne⟩
  have hxs : ∀ v, UpX (fun b => b = g) w (w.setCell ⟨g, 1, none⟩ v) := fun v => UpX.one _ _ _ _
  go_loopw [5, 6, 7, 8, 9, 21, 31] (fun n _ _ _ _ i _ wr => ∃ k m : Nat, k ≤ l.length ∧ k ≤ 10 ∧ i = .int .i64 k ∧ n = .int .u64 m ∧ w = wr ∧ m < 2 ^ (7 * k) ∧ m ≤ gr ∧ Hid (vget gr l 0 0 = vget gr (l.drop k) k m)) (fun _ _ _ _ _ i _ _ => l.length - (intOf i).toNat)
  case atStart => exact ⟨0, 0, by omega, by omega, rfl, rfl, rfl, by omega, by omega, Lib.hid rfl⟩
  case round =>
    obtain ⟨k, m, hk, hk10, rfl, rfl, rfl, hm, hmg, HG⟩ := hrel
    have HM := Lib.hid hm
    clear hm
    by_cases hlt : k < l.length
    · obtain ⟨ad, x, rfl, hcell, HX, hxr⟩ := hrd.get k hlt
      have hx2 := hxr.u8
      obtain ⟨y, rfl⟩ := Int.eq_ofNat_of_zero_le hx2.1
      have hcl := clear128_u8 y hxr
      have HD := Lib.hid (vget_drop l k hlt HX.out)
      have hbad : (9 < k ∨ gr < m + y % 128 * 2 ^ (7 * k) ∨ ((y : Int) = 0 ∧ 0 < k)) → vget gr l 0 0 = (0, k, 3) := fun h => by rw [HG.out, HD.out]; exact vget_bad _ _ _ _ _ (by simpa using h)
      by_cases h9 : 9 < k
      · have HV := Lib.hid (hbad (.inl h9))
        have h63 : (63 : Int) < 7 * (k : Int) := by omega
        clear hbad
        go_wp2_with fail
        try rw [Exit.noGoto_ret]
        go_ret
        rw [HV.out]
        exact ⟨rfl, hxs _, hset 3⟩
      · have h63 : 7 * (k : Int) ≤ 63 := by omega
        have hT := Lib.hid (show (2 : Int) ^ (7 * k) = ((2 ^ (7 * k) : Nat) : Int) by simp)
        have hTp := Lib.hid (show 0 < 2 ^ (7 * k) from Nat.two_pow_pos _)
        have HQ := Lib.hid (show 18446744073709551615 / (2 : Int) ^ (7 * k) < (y : Int) % 128 ↔ 18446744073709551615 / 2 ^ (7 * k) < y % 128 by
          rw [hT.out, show (18446744073709551615 : Int) / ((2 ^ (7 * k) : Nat) : Int) = ((18446744073709551615 / 2 ^ (7 * k) : Nat) : Int) by rw [Int.natCast_ediv]; rfl]
          generalize 18446744073709551615 / 2 ^ (7 * k) = q
          omega)
        by_cases hq : 18446744073709551615 / (2 : Int) ^ (7 * k) < (y : Int) % 128
        · have HV := Lib.hid (hbad (.inr (.inl (by
            have h1 := (HQ.out).1 hq
            rw [Nat.div_lt_iff_lt_mul hTp.out] at h1
            omega))))
          clear hbad
          go_wp2_with fail
          try rw [Exit.noGoto_ret]
          go_ret
          rw [HV.out]
          exact ⟨rfl, hxs _, hset 3⟩
        · have hpT : y % 128 * 2 ^ (7 * k) < 18446744073709551616 := by
            have h1 : ¬ (18446744073709551615 / 2 ^ (7 * k) < y % 128) := fun h => hq ((HQ.out).2 h)
            rw [Nat.div_lt_iff_lt_mul hTp.out] at h1
            omega
          have hor := or_shift m (y % 128) _ (7 * k) rfl HM.out (by omega) hpT
          rw [← hT.out] at hor
          have hor2 : bits .or .u64 (m : Int) (IntKind.u64.wrap ((y : Int) % 128 * 2 ^ (7 * k))) = ((m + y % 128 * 2 ^ (7 * k) : Nat) : Int) := by exact_mod_cast hor
          clear hor
          have HB := Lib.hid hbad
          have HG2 : vget gr l 0 0 = vget gr ((y : Int) :: l.drop (k + 1)) k m := by rw [HG.out, HD.out]
          have HL := Lib.hid fun h h2 => HG2.trans (vget_last gr (l.drop (k + 1)) y k m h h2)
          have HN := Lib.hid fun h h2 => HG2.trans (vget_next gr (l.drop (k + 1)) y k m h h2)
          clear HG2
          simp only [Int.toNat_natCast] at HL HN
          have HM2 := Lib.hid (show m + y % 128 * 2 ^ (7 * k) < 2 ^ (7 * (k + 1)) by
            have h1 : y % 128 * 2 ^ (7 * k) ≤ 127 * 2 ^ (7 * k) := Nat.mul_le_mul_right _ (by omega)
            have h2 : 2 ^ (7 * (k + 1)) = 128 * 2 ^ (7 * k) := by rw [show 7 * (k + 1) = 7 * k + 7 by omega, Nat.pow_add, Nat.mul_comm]
            have := HM.out
            omega)
          clear hbad
          generalize m + y % 128 * 2 ^ (7 * k) = v at *
          by_cases hv : gr < v
          · have HV := Lib.hid (HB.out (.inr (.inl hv)))
            go_wp2_with fail
            try rw [Exit.noGoto_ret]
            go_ret
            rw [HV.out]
            exact ⟨rfl, hxs _, hset 3⟩
          · by_cases h0 : y = 0 ∧ 0 < k
            · have HV := Lib.hid (HB.out (.inr (.inr ⟨by omega, h0.2⟩)))
              have H0 := Lib.hid h0
              have h0k : 0 < k := h0.2
              have hgv : (v : Int) ≤ (gr : Int) := by omega
              clear h0
              go_wp2_with fail
              all_goals first
                | (exfalso; have := H0.out; omega)
                | (try rw [Exit.noGoto_ret]
                   go_ret
                   rw [HV.out]
                   exact ⟨rfl, hxs _, hset 3⟩)
            · have H02 : Hid (y = 0 → bits .or .u64 (m : Int) 0 = (v : Int)) := Lib.hid (fun h => by
                have := hor2
                rw [h] at this
                simpa [show IntKind.u64.wrap 0 = 0 from rfl] using this)
              have hno : ¬ (9 < k ∨ gr < v ∨ (y : Int) = 0 ∧ 0 < k) := by omega
              have HL2 := Lib.hid (HL.out hno)
              have HN2 := Lib.hid (HN.out hno)
              clear hno HL HN HB
              have hgv : (v : Int) ≤ (gr : Int) := by omega
              by_cases h128 : (y : Int) < 128
              · have HV := Lib.hid (HL2.out h128)
                go_wp2_with fail
                all_goals
                  (refine (varTake_calls g (k + 1) l 0 w hg hb (by omega)).mono ?_
                   rintro e w2 ⟨v2, rfl, hv2, hu2, hr2⟩
                   go_wp2_with fail
                   try rw [Exit.noGoto_ret]
                   go_ret
                   rw [HV.out]
                   refine ⟨?_, hu2, by simpa using hr2⟩
                   first
                     | rfl
                     | (show Ending.returned (Value.int .u64 (bits .or .u64 (m : Int) 0)) = Ending.returned (Value.int .u64 (v : Int))
                        rw [H02.out (by assumption)]))
              · have HV := Lib.hid (HN2.out h128)
                go_wp2_with fail
                go_roundw
                case rel => exact ⟨k + 1, v, by omega, by omega, by simp, rfl, trivial, HM2.out, by omega, HV⟩
                case measure => simp [intOf]; omega
    · have hke : k = l.length := by omega
      subst hke
      have HV := Lib.hid (show vget gr l 0 0 = (0, l.length, 4) by rw [HG.out, List.drop_length]; rfl)
      go_wp2_with fail
      try rw [Exit.noGoto_ret]
      go_ret
      rw [HV.out]
      exact ⟨rfl, hxs _, hset 4⟩
end Go.Proofs.Ytneliajeokajbaa
