/- Several texts in one: RefNm, SbR, SbD, SbL. -/
import Derived.Test.YtmmacpicbonhhaaNmW
import Derived.Test.YtmmacpicbonhhaaPiM
import Derived.Test.YtmmacpicbonhhaaSbM
import Derived.Test.YtmmacpicbonhhaaRefInd
import Derived.Test.YtmmacpicbonhhaaBaseM
import Derived.Test.YtmmacpicbonhhaaSufWalk
import Derived.WalkMore
/- The walks of ref16's Piece, Compare, same and Names. -/
namespace Go.Proofs.Ytmmacpicbonhhaa
open Go.RowKit
set_option maxRecDepth 100000

set_option maxHeartbeats 2000000 in
theorem refPiece_calls (b off ca : Nat) (x : List Int) (Af : Option Addr) (fc : Nat) (fs : List Nat) (k : Nat) (w : World) (hx : Rd w .i64 (some ⟨b, off, none⟩) ca x) (hf : Rd w .i64 Af fc (fs.map fun (i : Nat) => (i : Int))) (hl : x.length ≤ 65536) (hfl : fs.length ≤ 65536) (hk : k < fs.length) (HU : Hid (fs.Pairwise (· < ·))) (HX : Hid (∀ i ∈ fs, i < x.length)) :
    Calls Try.prog 18 #[.slice (some ⟨b, off, none⟩) x.length ca, .slice Af fs.length fc, .int .i64 k] w fun e w' => (∃ B cb, e = .returned (.slice B (Ind.pieceN x fs k).length cb) ∧ Rd w .i64 B cb (Ind.pieceN x fs k)) ∧ ∃ q, w' = w.drewN q := by
  obtain ⟨a, ha⟩ : ∃ a, fs.getD k 0 = a := ⟨_, rfl⟩
  have hal : a < x.length := by
    rw [← ha]
    exact HX.out _ (by rw [List.getD_eq_getElem?_getD, List.getElem?_eq_getElem hk]; exact List.getElem_mem _)
  obtain ⟨ad, eA, hca⟩ : ∃ ad, Af = some ad ∧ w.cell? (ad.add k) = some (.int .i64 (a : Int)) := by
    obtain ⟨ad, v, e, hc, HV, _⟩ := hf.get k (by rw [List.length_map]; exact hk)
    have hv := HV.out
    rw [show (fs.map fun (i : Nat) => (i : Int)).getD k 0 = (a : Int) by rw [← ha]; simp [List.getD_eq_getElem?_getD, hk]] at hv
    exact ⟨ad, e, by rw [hv]; exact hc⟩
  subst eA
  have hcl := hx.le
  have hrd := hx.drop_ a (by omega)
  rw [if_neg (by omega)] at hrd
  by_cases hlt : k + 1 < fs.length
  · obtain ⟨z, hz⟩ : ∃ z, fs.getD (k + 1) 0 = z := ⟨_, rfl⟩
    have hzl : z < x.length := by
      rw [← hz]
      exact HX.out _ (by rw [List.getD_eq_getElem?_getD, List.getElem?_eq_getElem hlt]; exact List.getElem_mem _)
    have haz : a < z := by
      rw [← ha, ← hz]
      have := List.pairwise_iff_getElem.1 HU.out k (k + 1) hk hlt (by omega)
      simpa [List.getD_eq_getElem?_getD, hk, hlt] using this
    have hcz : w.cell? (ad.add (k + 1)) = some (.int .i64 (z : Int)) := by
      obtain ⟨ad', v, e, hc, HV, _⟩ := hf.get (k + 1) (by rw [List.length_map]; exact hlt)
      cases e
      have hv := HV.out
      rw [show (fs.map fun (i : Nat) => (i : Int)).getD (k + 1) 0 = (z : Int) by rw [← hz]; simp [List.getD_eq_getElem?_getD, hlt]] at hv
      rw [hv]; exact hc
    have HP := Lib.hid (show Ind.pieceN x fs k = (x.take (z + 1)).drop a by unfold Ind.pieceN; rw [if_pos hlt, ha, hz])
    have hcut := hx.cut a (z + 1) ca (by omega) (by omega) (by omega) (Nat.le_refl _)
    rw [if_neg (by omega)] at hcut
    have HC := Lib.hid hcut
    have hpl : (Ind.pieceN x fs k).length = z + 1 - a := by rw [HP.out, List.length_drop, List.length_take]; omega
    clear ha hz hrd hcut
    go_enter Try.func18, Try.ntmps18
    go_wp2_with fail
    refine wp_region_tree (Cells [(ad.add k, .int .i64 (a : Int)), (ad.add (k + 1), .int .i64 (z : Int))]) (.quiet 0 (.quiet 1 (.quiet 2 (.quiet 3 (.quiet 4 (.quiet 5 (.quiet 6 (.quiet 7 (.quiet 8 (.quiet 9 (.quiet 10 (.quiet 11 (.quiet 12 (.nil)))))))))))))) (by kernel_rfl) (by kernel_rfl) rfl (by kernel_rfl) (by kernel_rfl) (Cells.cons hca (Cells.cons hcz (Cells.nil _))) ?_
    simp only [pickT, List.getElem?_cons_succ, List.getElem?_cons_zero, Option.getD_some]
    repeat (refine tree_step rfl (fun K hK => ?_); go_big_quiet_step ((intro _; rfl)); refine wpQuiet_nil (hK _ ?_); clear hK K)
    refine tree_load (ad.add k) (.int .i64 (a : Int)) (by kernel_rfl) rfl (by kernel_rfl) (fun w' h => h.head) ?_
    dsimp only [Act.put]
    simp only [List.setIfInBounds_toArray, List.set_cons_zero, List.set_cons_succ]
    repeat (refine tree_step rfl (fun K hK => ?_); go_big_quiet_step ((intro _; rfl)); refine wpQuiet_nil (hK _ ?_); clear hK K)
    refine tree_load (ad.add (k + 1)) (.int .i64 (z : Int)) (by kernel_rfl) rfl (by kernel_rfl) (fun w' h => h.tail.head) ?_
    dsimp only [Act.put]
    simp only [List.setIfInBounds_toArray, List.set_cons_zero, List.set_cons_succ]
    repeat (refine tree_step rfl (fun K hK => ?_); go_big_quiet_step ((intro _; rfl)); refine wpQuiet_nil (hK _ ?_); clear hK K)
    refine tree_nil ?_
    go_wp2_with fail
    go_ret
    refine ⟨⟨_, _, ?_, by rw [HP.out]; exact HC.out⟩, _, rfl⟩
    rw [hpl, show Option.map (fun y : Addr => y.add a) (some (⟨b, off, none⟩ : Addr)) = some ⟨b, off + a, none⟩ from congrArg some (add_at b off a)]
    rfl
  · have HP := Lib.hid (show Ind.pieceN x fs k = x.drop a by unfold Ind.pieceN; rw [if_neg hlt, ha])
    have HC := Lib.hid hrd
    have hpl : (Ind.pieceN x fs k).length = x.length - a := by rw [HP.out, List.length_drop]
    clear ha hrd
    go_enter Try.func18, Try.ntmps18
    go_wp2_with fail
    go_ret
    refine ⟨⟨_, _, ?_, by rw [HP.out]; exact HC.out⟩, 0, rfl⟩
    rw [hpl, show Option.map (fun y : Addr => y.add a) (some (⟨b, off, none⟩ : Addr)) = some ⟨b, off + a, none⟩ from congrArg some (add_at b off a)]
    rfl

theorem getD_mem_ (l : List Int) (k : Nat) (h : k < l.length) : l.getD k 0 ∈ l := by
  rw [List.getD_eq_getElem?_getD, List.getElem?_eq_getElem h]; exact List.getElem_mem _
/-- Numbers compared one by one, as the document does. -/
def cmpV : List Int → List Int → Int
  | [], t => (t.length : Int)
  | a :: s, [] => -((a :: s).length : Int)
  | a :: s, b :: t => if a ≠ b then a - b else cmpV s t
theorem cmpV_sign : ∀ s t : List Int, (cmpV s t < 0 ↔ Ind.cmpL s t < 0) ∧ (cmpV s t = 0 ↔ s = t)
  | [], [] => by simp [cmpV, Ind.cmpL]
  | [], b :: t => by simp [cmpV, Ind.cmpL]; omega
  | a :: s, [] => by simp [cmpV, Ind.cmpL]; omega
  | a :: s, b :: t => by
    obtain ⟨h1, h2⟩ := cmpV_sign s t
    unfold cmpV Ind.cmpL
    by_cases e : a = b
    · subst e
      rw [if_neg (by simp), if_neg (by omega), if_neg (by omega)]
      exact ⟨h1, by rw [h2]; simp⟩
    · rw [if_pos e]
      by_cases e1 : a < b
      · rw [if_pos e1]
        exact ⟨by omega, by constructor; intro h; omega; intro h; exact absurd (List.cons.inj h).1 e⟩
      · rw [if_neg e1, if_pos (by omega)]
        exact ⟨by omega, by constructor; intro h; omega; intro h; exact absurd (List.cons.inj h).1 e⟩
theorem cmpV_end (s t : List Int) (k : Nat) (h : k = s.length ∨ k = t.length) (h1 : k ≤ s.length) (h2 : k ≤ t.length) : cmpV (s.drop k) (t.drop k) = (t.length : Int) - (s.length : Int) := by
  rcases h with rfl | rfl
  · rw [List.drop_length]
    show ((t.drop _).length : Int) = _
    rw [List.length_drop]; omega
  · rw [List.drop_length]
    cases e : s.drop t.length with
    | nil =>
      have := congrArg List.length e
      rw [List.length_drop, List.length_nil] at this
      show ((0 : Nat) : Int) = _
      omega
    | cons a r =>
      have := congrArg List.length e
      rw [List.length_drop] at this
      show -((a :: r).length : Int) = _
      omega
theorem cmpV_step (s t : List Int) (k : Nat) (h1 : k < s.length) (h2 : k < t.length) : cmpV (s.drop k) (t.drop k) = if s.getD k 0 ≠ t.getD k 0 then s.getD k 0 - t.getD k 0 else cmpV (s.drop (k + 1)) (t.drop (k + 1)) := by
  rw [List.drop_eq_getElem_cons h1, List.drop_eq_getElem_cons h2, cmpV]
  simp [List.getD_eq_getElem?_getD, h1, h2]

set_option maxHeartbeats 2000000 in
theorem refComp_calls (A B : Option Addr) (ca cb : Nat) (s t : List Int) (w : World) (h1 : Rd w .i64 A ca s) (h2 : Rd w .i64 B cb t) (hs : s.length ≤ 65536) (ht : t.length ≤ 65536) (HS : Hid (∀ z ∈ s, 0 ≤ z ∧ z < 65536)) (HT : Hid (∀ z ∈ t, 0 ≤ z ∧ z < 65536)) :
    Calls Try.prog 17 #[.slice A s.length ca, .slice B t.length cb] w fun e w' => e = .returned (.int .i64 (cmpV s t)) ∧ ∃ q, w' = w.drewN q := by
  go_enter Try.func17, Try.ntmps17
  go_wp2_with fail
  go_loopw [5] (fun i wr => ∃ k : Nat, k ≤ s.length ∧ k ≤ t.length ∧ i = .int .i64 k ∧ Hid (cmpV (s.drop k) (t.drop k) = cmpV s t) ∧ Qt w wr) (fun i _ => s.length - (intOf i).toNat)
  case atStart => exact ⟨0, Nat.zero_le _, Nat.zero_le _, rfl, Lib.hid rfl, Qt.refl _⟩
  case round =>
    obtain ⟨k, hk1, hk2, rfl, HV, hq⟩ := hrel
    obtain ⟨q, rfl⟩ := hq.out
    by_cases hls : k < s.length
    · by_cases hlt : k < t.length
      · obtain ⟨ad1, v1, rfl, c1, HX1, _⟩ := h1.get k hls
        obtain ⟨ad2, v2, rfl, c2, HX2, _⟩ := h2.get k hlt
        have HC := Lib.hid (cmpV_step s t k hls hlt)
        rw [HX1.out, HX2.out] at HC
        have hr1 := HS.out v1 (by rw [← HX1.out]; exact getD_mem_ s k hls)
        have hr2 := HT.out v2 (by rw [← HX2.out]; exact getD_mem_ t k hlt)
        by_cases e : v1 = v2
        · subst e
          have HV2 := Lib.hid ((HC.out.trans (if_neg (by simp))).symm.trans HV.out)
          clear HC
          go_wp2_with fail
          go_quiet (fail)
          go_wp2_with fail
          refine ⟨⟨k + 1, by omega, by omega, by simp, HV2, by first | exact hq.drewN _ | (rw [← World.drewN_drewN]; exact hq.drewN _)⟩, ?_⟩
          simp [intOf]; omega
        · have HV2 := Lib.hid (HV.out.symm.trans (HC.out.trans (if_pos e)))
          have eb : (v1 != v2) = true := by simpa using e
          clear HC e
          go_wp2_with fail
          go_quiet (fail)
          go_wp2_with fail
          go_quiet (fail)
          go_wp2_with fail
          go_ret
          exact ⟨by rw [HV2.out]; rfl, ((hq.drewN _).drewN _).out⟩
      · have hke : k = t.length := by omega
        have HV2 := Lib.hid (HV.out.symm.trans (cmpV_end s t k (.inr hke) hk1 hk2))
        go_wp2_with fail
        go_ret
        exact ⟨by rw [HV2.out]; rfl, hq.out⟩
    · have hke : k = s.length := by omega
      have HV2 := Lib.hid (HV.out.symm.trans (cmpV_end s t k (.inl hke) hk1 hk2))
      go_wp2_with fail
      go_ret
      exact ⟨by rw [HV2.out]; rfl, hq.out⟩

set_option maxHeartbeats 2000000 in
theorem refSame_calls (A B : Option Addr) (ca cb : Nat) (s t : List Int) (w : World) (h1 : Rd w .i64 A ca s) (h2 : Rd w .i64 B cb t) (hs : s.length ≤ 65536) (ht : t.length ≤ 65536) (HS : Hid (∀ z ∈ s, 0 ≤ z ∧ z < 65536)) (HT : Hid (∀ z ∈ t, 0 ≤ z ∧ z < 65536)) :
    Calls Try.prog 48 #[.slice A s.length ca, .slice B t.length cb] w fun e w' => e = .returned (.bool (decide (s = t))) ∧ ∃ q, w' = w.drewN q := by
  by_cases hl : s.length = t.length
  · have HC := Lib.hid (refComp_calls A B ca cb s t w h1 h2 hs ht HS HT)
    have hz := Lib.hid (cmpV_sign s t).2
    have e1 : ((s.length : Int) == (t.length : Int)) = true := by simp [hl]
    generalize cmpV s t = v at *
    generalize hd : decide (s = t) = d at *
    have HD := Lib.hid (show (v == 0) = d by
      rw [← hd]
      by_cases e : s = t
      · rw [decide_eq_true e, hz.out.2 e]; rfl
      · rw [decide_eq_false e]; simpa using fun h => e (hz.out.1 h))
    have HL := Lib.hid hl
    clear hd hz hl
    go_enter Try.func48, Try.ntmps48
    go_wp2_with fail
    refine (HC.out).mono ?_
    rintro en w1 ⟨rfl, q, rfl⟩
    go_wp2_with fail
    go_ret
    exact ⟨by first | rfl | (rw [← HD.out]; rfl), _, rfl⟩
  · have e1 : ((s.length : Int) == (t.length : Int)) = false := by simpa using (show (s.length : Int) ≠ (t.length : Int) by omega)
    have HD := Lib.hid (decide_eq_false (show ¬ s = t from fun e => hl (by rw [e])))
    clear hl
    go_enter Try.func48, Try.ntmps48
    go_wp2_with fail
    go_ret
    exact ⟨by rw [HD.out]; rfl, 0, rfl⟩
/-- Names as they stand. -/
def nmsC (fs : List Nat) (s : NmS) : List Int := fs.map fun (i : Nat) => (s.nm (i : Int)).getD 0
theorem nmsC_len (fs : List Nat) (s : NmS) : (nmsC fs s).length = fs.length := by simp [nmsC]
theorem nmsC_zero (fs : List Nat) : nmsC fs ⟨0, [], fun _ => none⟩ = List.replicate fs.length 0 := by
  unfold nmsC
  refine List.ext_getElem (by simp) fun i h1 h2 => by simp
/-- Behind k of the first Ss. -/
def nmAt (x : List Int) (fs : List Nat) (s : NmS) (z : Int) (k : Nat) : NmS := match pcIx fs z with
  | none => s
  | some kk => if kk < k then nmStep x fs s z else s
theorem nmAt_zero (x : List Int) (fs : List Nat) (s : NmS) (z : Int) : nmAt x fs s z 0 = s := by
  unfold nmAt
  cases pcIx fs z with
  | none => rfl
  | some kk => exact if_neg (by omega)
theorem nmAt_all (x : List Int) (fs : List Nat) (s : NmS) (z : Int) : nmAt x fs s z fs.length = nmStep x fs s z := by
  unfold nmAt
  cases h : pcIx fs z with
  | none => unfold nmStep; rw [h]
  | some kk => exact if_pos (pcIx_some h).1
theorem nmAt_skip (x : List Int) (fs : List Nat) (s : NmS) (z : Int) (k : Nat) (h : (fs.getD k 0 : Int) ≠ z) : nmAt x fs s z (k + 1) = nmAt x fs s z k := by
  unfold nmAt
  cases e : pcIx fs z with
  | none => rfl
  | some kk =>
    have : kk ≠ k := fun e2 => h (by rw [← e2]; exact (pcIx_some e).2)
    show (if kk < k + 1 then _ else _) = (if kk < k then _ else _)
    by_cases h2 : kk < k
    · rw [if_pos h2, if_pos (by omega)]
    · rw [if_neg h2, if_neg (by omega)]
theorem pcIx_at {fs : List Nat} (hU : fs.Pairwise (· < ·)) (k : Nat) (hk : k < fs.length) : pcIx fs (fs.getD k 0 : Int) = some k := by
  cases h : pcIx fs (fs.getD k 0 : Int) with
  | none =>
    exact absurd rfl (pcIx_none h (fs.getD k 0) (by rw [List.getD_eq_getElem?_getD, List.getElem?_eq_getElem hk]; exact List.getElem_mem hk))
  | some a =>
    obtain ⟨ha, e⟩ := pcIx_some h
    have e : fs.getD a 0 = fs.getD k 0 := by omega
    congr 1
    rcases Nat.lt_trichotomy a k with h1 | h1 | h1
    · have := List.pairwise_iff_getElem.1 hU a k ha hk h1
      simp [List.getD_eq_getElem?_getD, ha, hk] at e
      omega
    · exact h1
    · have := List.pairwise_iff_getElem.1 hU k a hk ha h1
      simp [List.getD_eq_getElem?_getD, ha, hk] at e
      omega
/-- The count behind a first S. -/
def nmN (x : List Int) (fs : List Nat) (s : NmS) (k : Nat) : Nat := if s.n = 0 ∨ Ind.pieceN x fs k ≠ s.ahead then s.n + 1 else s.n
theorem nmAt_hit {x : List Int} {fs : List Nat} (hU : fs.Pairwise (· < ·)) (s : NmS) (z : Int) (k : Nat) (hk : k < fs.length) (h : (fs.getD k 0 : Int) = z) :
    nmAt x fs s z k = s ∧ (nmAt x fs s z (k + 1)).n = nmN x fs s k ∧ (nmAt x fs s z (k + 1)).ahead = Ind.pieceN x fs k ∧ nmsC fs (nmAt x fs s z (k + 1)) = (nmsC fs s).set k ((nmN x fs s k : Int) - 1) := by
  have hp := pcIx_at hU k hk
  rw [h] at hp
  have e1 : nmAt x fs s z (k + 1) = ⟨nmN x fs s k, Ind.pieceN x fs k, fun y => if y = z then some ((nmN x fs s k : Int) - 1) else s.nm y⟩ := by
    unfold nmAt nmStep nmN
    rw [hp]
    simp
  refine ⟨?_, by rw [e1], by rw [e1], ?_⟩
  · unfold nmAt
    rw [hp]
    exact if_neg (by omega)
  · rw [e1]
    unfold nmsC
    refine List.ext_getElem (by simp) fun i h1 h2 => ?_
    rw [List.getElem_set]
    simp only [List.getElem_map]
    have hi : i < fs.length := by simpa using h1
    by_cases e : k = i
    · subst e
      rw [if_pos rfl]
      have : (fs[k] : Int) = z := by rw [← h, List.getD_eq_getElem?_getD, List.getElem?_eq_getElem hk]; rfl
      rw [if_pos this]
      rfl
    · rw [if_neg e, if_neg]
      intro e2
      have hk2 : (fs[k] : Int) = z := by rw [← h, List.getD_eq_getElem?_getD, List.getElem?_eq_getElem hk]; rfl
      rcases Nat.lt_or_gt_of_ne e with h3 | h3
      · have := List.pairwise_iff_getElem.1 hU k i hk hi h3
        omega
      · have := List.pairwise_iff_getElem.1 hU i k hi hk h3
        omega
theorem nmAt_n (x : List Int) (fs : List Nat) (s : NmS) (z : Int) (k : Nat) : (nmAt x fs s z k).n ≤ s.n + 1 := by
  unfold nmAt
  cases h : pcIx fs z with
  | none => show s.n ≤ _; omega
  | some kk =>
    show (if kk < k then nmStep x fs s z else s).n ≤ _
    split
    · unfold nmStep
      rw [h]
      show (if s.n = 0 ∨ Ind.pieceN x fs kk ≠ s.ahead then s.n + 1 else s.n) ≤ _
      split <;> omega
    · omega
/-- The last one named. -/
structure AhOk (x : List Int) (fs : List Nat) (s : NmS) (a : Int) : Prop where mk ::
  out : (s.n = 0 ∧ a = -1) ∨ ∃ kk : Nat, kk < fs.length ∧ a = (kk : Int) ∧ s.ahead = Ind.pieceN x fs kk ∧ s.n ≠ 0
theorem piece_rng (x : List Int) (fs : List Nat) (k : Nat) (h : ∀ z ∈ x, 0 ≤ z ∧ z < 65536) : ∀ z ∈ Ind.pieceN x fs k, 0 ≤ z ∧ z < 65536 := fun z hz => h z (by
  unfold Ind.pieceN at hz
  split at hz
  · exact List.mem_of_mem_take (List.mem_of_mem_drop hz)
  · exact List.mem_of_mem_drop hz)
theorem piece_le (x : List Int) (fs : List Nat) (k : Nat) : (Ind.pieceN x fs k).length ≤ x.length := by
  unfold Ind.pieceN
  split
  · rw [List.length_drop, List.length_take]; omega
  · rw [List.length_drop]; omega

theorem nmsC_rng (x : List Int) (fs : List Nat) (o : List Int) : ∀ z ∈ nmsC fs (nmAll x fs o), 0 ≤ z ∧ z ≤ (o.length : Int) := fun z hz => by
  obtain ⟨i, _, rfl⟩ := List.mem_map.1 hz
  have := nmAll_rng x fs o o.length (Nat.le_refl _)
  rw [List.take_length] at this
  cases h : (nmAll x fs o).nm (i : Int) with
  | none => simp
  | some v =>
    have := this _ _ h
    simp only [Option.getD_some]
    omega
theorem cellsOf_set_ (l : List Int) (k : Nat) (v : Int) : cellsOf .i64 (l.set k v) = (cellsOf .i64 l).set! k (.int .i64 v) := (cellsOf_set ..).symm
set_option maxHeartbeats 8000000 in
theorem refNames_calls (b off ca : Nat) (x : List Int) (Ao : Option Addr) (co : Nat) (o : List Int) (fs : List Nat) (w : World) (hx : Rd w .i64 (some ⟨b, off, none⟩) ca x) (ho : Rd w .i64 Ao co o) (hl : x.length ≤ 65536) (hol : o.length ≤ 65536) (hfl : fs.length ≤ 65536)
    (HU : Hid (fs.Pairwise (· < ·))) (HX : Hid (∀ i ∈ fs, i < x.length)) (HZ : Hid (∀ z ∈ x, 0 ≤ z ∧ z < 65536))
    (HF : Hid (Calls Try.prog 10 #[.slice (some ⟨b, off, none⟩) x.length ca] w (Ret1 w (fs.map fun (i : Nat) => (i : Int))))) :
    Calls Try.prog 16 #[.slice (some ⟨b, off, none⟩) x.length ca, .slice Ao o.length co] w fun e w' => ∃ v, e = .returned (.tuple #[v, .int .i64 (nmAll x fs o).n]) ∧ Own w' w.heap.size 3 .i64 v (nmsC fs (nmAll x fs o)) ∧ Up w w' := by
  have hxl : 0 < x.length ∨ x.length = 0 := by omega
  go_enter Try.func16, Try.ntmps16
  go_wp2_with fail
  refine (HF.out).mono ?_
  rintro en w1 ⟨v1, rfl, hv1, hu1⟩
  obtain ⟨A1, c1, rfl, hr1⟩ := hv1.rd
  rw [List.length_map]
  clear hv1 HF
  go_wp2_with (refine wpl_makeK 3 .i64 8 Try.underlying22 infoInt9 fs.length rfl rfl (by omega) (by omega) ?_; intro wn hbO hun hsn)
  have hOlo := hu1.size
  have hO1 : w1.heap.size ≤ w1.heap.size := Nat.le_refl _
  generalize hOe : w1.heap.size = O at hbO hsn hO1
  rw [hOe] at hOlo
  try rw [hOe]
  clear hsn
  go_loopw [8, 9, 10, 11] (fun n a j _ wr => ∃ (jj : Nat) (aa : Int), jj ≤ o.length ∧ j = .int .i64 jj ∧ n = .int .i64 ((nmAll x fs (o.take jj)).n : Nat) ∧ a = .int .i64 aa ∧ AhOk x fs (nmAll x fs (o.take jj)) aa ∧ Blk wr O 3 (cellsOf .i64 (nmsC fs (nmAll x fs (o.take jj)))) ∧ Up w1 wr) (fun _ _ j _ _ => o.length - (intOf j).toNat)
  case atStart => exact ⟨0, -1, Nat.zero_le _, rfl, rfl, rfl, ⟨.inl ⟨rfl, rfl⟩⟩, by show Blk wn O _ (cellsOf .i64 (nmsC fs ⟨0, [], fun _ => none⟩)); rw [nmsC_zero]; exact hbO, hun⟩
  case round =>
    clear hbO hun
    obtain ⟨j, aa, hj, rfl, rfl, rfl, HA, hb, hU⟩ := hrel
    by_cases hlt : j < o.length
    · have hnb := nmAll_n x fs o j hj
      have HST := Lib.hid (nmAll_snoc x fs o j hlt)
      obtain ⟨ado, z, rfl, hcz, HZZ, _⟩ := ho.get j hlt
      rw [HZZ.out, ← nmAt_all] at HST
      generalize nmAll x fs (o.take j) = s at *
      have HN := Lib.hid (fun k => nmAt_n x fs s z k)
      have hcz0 := (hu1.trans hU).cell hcz
      have hb0 : Blk wr O 3 (cellsOf .i64 (nmsC fs (nmAt x fs s z 0))) := by rw [nmAt_zero]; exact hb
      have HA0 : AhOk x fs (nmAt x fs s z 0) aa := by rw [nmAt_zero]; exact HA
      have hn0 : s.n = (nmAt x fs s z 0).n := by rw [nmAt_zero]
      rw [hn0]
      clear HZZ hb HA hcz0 hn0
      go_wp2_with fail
      go_loopw [8, 9, 11] (fun n a k wx => ∃ (kk : Nat) (aa : Int), kk ≤ fs.length ∧ k = .int .i64 kk ∧ n = .int .i64 ((nmAt x fs s z kk).n : Nat) ∧ a = .int .i64 aa ∧ AhOk x fs (nmAt x fs s z kk) aa ∧ Blk wx O 3 (cellsOf .i64 (nmsC fs (nmAt x fs s z kk))) ∧ Up w1 wx) (fun _ _ k _ => fs.length - (intOf k).toNat)
      case atStart => exact ⟨0, aa, Nat.zero_le _, rfl, rfl, rfl, HA0, hb0, hU⟩
      case round =>
        clear HA0 hb0 hU
        obtain ⟨k, aa, hk, rfl, rfl, rfl, HA, hb, hU⟩ := hrel
        by_cases hlk : k < fs.length
        · obtain ⟨i, hi⟩ : ∃ i, fs.getD k 0 = i := ⟨_, rfl⟩
          obtain ⟨ad1, v, eA1, hc1, HV1, _⟩ := (hr1.up hU).get k (by rw [List.length_map]; exact hlk)
          have hv1 := HV1.out
          rw [show (fs.map fun (i : Nat) => (i : Int)).getD k 0 = (i : Int) by rw [← hi]; simp [List.getD_eq_getElem?_getD, hlk]] at hv1
          subst hv1
          have hczr := (hu1.trans hU).cell hcz
          have hxr := hx.up (hu1.trans hU)
          have hr1r := hr1.up hU
          have hnk := HN.out k
          subst eA1
          by_cases e : (i : Int) = z
          · obtain ⟨e1, e2, e3, e4⟩ := nmAt_hit HU.out s z k hlk (by rw [hi]; exact e)
            rw [e1] at HA hb
            have hgO := (hb.cell k).trans (cellsOf_get _ _ k (by rw [nmsC_len]; exact hlk))
            have hfO := hb.frozen k
            generalize (nmsC fs s).getD k 0 = old at hgO
            have HB := Lib.hid hb
            have HUr := Lib.hid hU
            have HRK := Lib.hid (show k < fs.length ∧ i < x.length from ⟨hlk, by rw [← hi]; exact HX.out _ (by rw [List.getD_eq_getElem?_getD, List.getElem?_eq_getElem hlk]; exact List.getElem_mem _)⟩)
            subst e
            rw [e1] at hnk ⊢
            have H2 := Lib.hid e2
            have H3 := Lib.hid e3
            have H4 := Lib.hid e4
            clear e1 e2 e3 e4 hb hU hi
            rcases HA.out with ⟨h0, rfl⟩ | ⟨kk, hkk, rfl, hah, hn1⟩
            · have hN := Lib.hid (show nmN x fs s k = 1 by unfold nmN; rw [if_pos (.inl h0), h0])
              rw [h0]
              clear h0 hnk HA
              go_wp2_with fail
              go_quiet (fail)
              go_wp2_with fail
              refine ⟨⟨k + 1, (k : Int), by omega, by simp, by rw [H2.out, hN.out]; rfl, rfl, ⟨.inr ⟨k, HRK.out.1, rfl, H3.out, by rw [H2.out, hN.out]; decide⟩⟩, by rw [H4.out, hN.out, cellsOf_set_]; exact (HB.out.drewN _).set k _, (HUr.out.drewN _).setCell (by show w1.heap.size ≤ O; omega) _⟩, ?_⟩
              simp [intOf]; omega
            · have HNE := Lib.hid hn1
              have HAH := Lib.hid hah
              have hsn : s.n ≤ 65536 := by omega
              clear hah hn1 hnk HA
              go_wp2_with fail
              go_quiet (fail)
              go_wp2_with fail
              refine (refPiece_calls b off ca x (some ad1) c1 fs k _ (hxr.drewN _) (hr1r.drewN _) hl hfl hlk HU HX).mono ?_
              rintro en w2 ⟨⟨B1, cb1, rfl, hp1⟩, q1, rfl⟩
              go_wp2_with fail
              refine (refPiece_calls b off ca x (some ad1) c1 fs kk _ (hxr.drewN _) (hr1r.drewN _) hl hfl hkk HU HX).mono ?_
              rintro en w2 ⟨⟨B2, cb2, rfl, hp2⟩, q2, rfl⟩
              have hpl1 := piece_le x fs k
              have hpl2 := piece_le x fs kk
              have HRG := Lib.hid (And.intro (piece_rng x fs k HZ.out) (piece_rng x fs kk HZ.out))
              have hq1 : Rd (wr.drewN (nq + q1 + q2)) .i64 B1 cb1 (Ind.pieceN x fs k) := by rw [Nat.add_assoc, ← World.drewN_drewN]; exact hp1.drewN _
              have hq2 : Rd (wr.drewN (nq + q1 + q2)) .i64 B2 cb2 (Ind.pieceN x fs kk) := by rw [← World.drewN_drewN]; exact hp2.drewN _
              have HSM := Lib.hid (refSame_calls B1 B2 cb1 cb2 _ _ _ hq1 hq2 (by omega) (by omega) (Lib.hid HRG.out.1) (Lib.hid HRG.out.2))
              have HPE := Lib.hid (show nmN x fs s k = if Ind.pieceN x fs k = Ind.pieceN x fs kk then s.n else s.n + 1 by
                unfold nmN
                rw [HAH.out]
                by_cases e : Ind.pieceN x fs k = Ind.pieceN x fs kk
                · rw [if_neg (by rintro (h | h); exact HNE.out h; exact h e), if_pos e]
                · rw [if_pos (.inr e), if_neg e])
              clear hp1 hp2 hpl1 hpl2 hq1 hq2
              go_wp2_with fail
              refine (HSM.out).mono ?_
              rintro en w2 ⟨rfl, q3, rfl⟩
              clear HSM
              by_cases he : Ind.pieceN x fs k = Ind.pieceN x fs kk
              · have hN := Lib.hid (HPE.out.trans (if_pos he))
                rw [decide_eq_true he]
                clear he
                go_wp2_with fail
                refine ⟨⟨k + 1, (k : Int), by omega, by simp, by rw [H2.out, hN.out], rfl, ⟨.inr ⟨k, HRK.out.1, rfl, H3.out, by rw [H2.out, hN.out]; exact HNE.out⟩⟩, by rw [H4.out, hN.out, cellsOf_set_]; exact (HB.out.drewN _).set k _, (HUr.out.drewN _).setCell (by show w1.heap.size ≤ O; omega) _⟩, ?_⟩
                simp [intOf]; omega
              · have hN := Lib.hid (HPE.out.trans (if_neg he))
                rw [decide_eq_false he]
                clear he
                go_wp2_with fail
                refine ⟨⟨k + 1, (k : Int), by omega, by simp, by rw [H2.out, hN.out]; simp, rfl, ⟨.inr ⟨k, HRK.out.1, rfl, H3.out, by rw [H2.out, hN.out]; omega⟩⟩, by rw [H4.out, hN.out, cellsOf_set_, show ((s.n + 1 : Nat) : Int) - 1 = (s.n : Int) by omega]; exact (HB.out.drewN _).set k _, (HUr.out.drewN _).setCell (by show w1.heap.size ≤ O; omega) _⟩, ?_⟩
                simp [intOf]; omega
          · have HSK := Lib.hid (nmAt_skip x fs s z k (by rw [hi]; exact e))
            have eb : ((i : Int) != z) = true := by simpa using e
            have HA' := Lib.hid HA
            have HB := Lib.hid hb
            have HUr := Lib.hid hU
            clear e HA hb hU hi
            generalize nmAt x fs s z k = T at *
            go_wp2_with fail
            go_quiet (fail)
            go_wp2_with fail
            refine ⟨⟨k + 1, aa, by omega, by simp, by rw [HSK.out], rfl, by rw [HSK.out]; exact HA'.out, by rw [HSK.out]; exact HB.out.drewN _, HUr.out.drewN _⟩, ?_⟩
            simp [intOf]; omega
        · have hke : k = fs.length := by omega
          subst hke
          have HB := Lib.hid hb
          have HUr := Lib.hid hU
          have HA' := Lib.hid HA
          clear hb hU HA
          rw [← HST.out] at *
          go_wp2_with fail
          refine ⟨⟨j + 1, aa, by omega, by simp, rfl, rfl, HA'.out, HB.out, HUr.out⟩, ?_⟩
          simp [intOf]; omega
    · have hje : j = o.length := by omega
      subst hje
      have HR := Lib.hid (nmsC_rng x fs o)
      rw [List.take_length] at *
      have HB := Lib.hid hb
      have HUr := Lib.hid (hu1.trans hU)
      clear hb hU HA
      go_wp2_with fail
      go_ret2
      exact ⟨_, rfl, Own.of_cells HB.out hOlo (nmsC_len fs _).symm (by rw [nmsC_len]; omega) fun z hz => by have := HR.out z hz; exact InK.of_i64 (by omega) (by omega), HUr.out⟩
end Go.Proofs.Ytmmacpicbonhhaa

/- What the document's functions of layers 15 and 16 do, as calls. -/
namespace Go.Proofs.Ytmmacpicbonhhaa.SalPure
open Go.RowKit Go.Proofs.Ytmmacpicbonhhaa Go.Proofs.Ytmmacpicbonhhaa.PSal Go.Proofs.YtmmacpicbonhhaaW.PrintWords Go.Proofs.YtmmacpicbonhhaaW.PrintMore
set_option maxRecDepth 100000
set_option linter.unusedVariables false

theorem c_refFirsts {x : List Int} (hx : Txt x) (hb : x.length ≤ 65536) (A : Option Addr) (c : Nat) (w : World) (h : Rd w .i64 A c x) :
    Calls Try.prog 10 #[.slice A x.length c] w (Ret1 w (firstsL x)) := by
  obtain ⟨k, e⟩ := Ev.rounds (refFirsts hx (by omega))
  exact (incipitref15_Firsts.calls k A c x _ w (kd_of_rd h) h.le e).mono fun _ _ ⟨v, he, hv, hu⟩ => ⟨v, he, own_of_kd hv (firstsL_in hb), ⟨hu⟩⟩
theorem kdPostR_of {x : List Int} {ks : List Bool} {w w' : World} {en : Ending} {v : Value} (hp : 0 < x.length) (he : en = .returned v) (hv : Kd.R Kd.bool 4 w' w.heap.size (fun _ => True) v ks) (hb : Below w.heap.size w w') (hk : ks = (List.range x.length).map (Ind.knd x)) : KdPostR x w en w' := by
  obtain ⟨B, c, rfl, _, hr⟩ := Kd.R_reads hv
  have hl : ks.length = x.length := by rw [hk]; simp
  have hat : ∀ i, i < x.length → ∃ ad, B = some ad ∧ w'.cell? (ad.add i) = some (.bool (Ind.knd x i)) := fun i hi => by
    obtain ⟨ad, e1, hc⟩ := Kd.at_bool hr (i : Int) (by omega) (by omega)
    refine ⟨ad, e1, ?_⟩
    rw [show ((i : Int)).toNat = i by simp] at hc
    rw [hc]
    unfold rdOf
    rw [hk]
    simp [List.getD_eq_getElem?_getD, hi]
  refine ⟨B, c, by rw [he, hl], ⟨hat⟩, fun ad e1 => ?_, ⟨hb⟩⟩
  obtain ⟨ad', e2, hc⟩ := hat 0 hp
  rw [e1] at e2
  cases e2
  have := World.block_lt_of_cell? w' (ad.add 0) hc
  rwa [add_block] at this
theorem c_refKinds {x : List Int} (hx : Txt x) (hb : x.length ≤ 65536) (A : Option Addr) (c : Nat) (w : World) (h : Rd w .i64 A c x) :
    Calls Try.prog 37 #[.slice A x.length c] w (KdPostR x w) := by
  obtain ⟨k, e⟩ := Ev.rounds (refKinds hx (by omega))
  exact (incipitref15_Kinds.calls k A c x _ w (kd_of_rd h) h.le e).mono fun _ _ ⟨v, he, hv, hu⟩ => kdPostR_of hx.pos he hv hu rfl
theorem c_great {x : List Int} (hx : Txt x) (hb : x.length ≤ 65536) (A : Option Addr) (c : Nat) (w : World) (h : Rd w .i64 A c x) :
    Calls Try.prog 43 #[.slice A x.length c] w fun en w' => en = .returned (.int .i64 ((topM x : Int) - 1)) ∧ Up w w' := by
  obtain ⟨t1, _, _⟩ := (codes_of hx hb).codes.top
  have e0 : Lib.maxOf x = (topM x : Int) - 1 := by omega
  obtain ⟨k, e⟩ := Ev.rounds (greatest hx hb)
  rw [e0] at e
  exact (incipitref16_Greatest.calls k A c x _ w (kd_of_rd h) h.le e).mono fun _ _ ⟨he, hu⟩ => ⟨he, ⟨hu⟩⟩
theorem c_bucket {x : List Int} (hb : x.length ≤ 65536) (d : Int) (A : Option Addr) (c : Nat) (w : World) (h : Rd w .i64 A c x) :
    Calls Try.prog 44 #[.slice A x.length c, .int .i64 d] w fun en w' => en = .returned (.tuple #[.int .i64 (Ind.hd x d : Nat), .int .i64 (Ind.tl x d : Nat)]) ∧ ∃ q, w' = w.drewN q := by
  obtain ⟨k, e⟩ := Ev.rounds (bucket x (by omega) d)
  rw [← tl_list, ← hd_list] at e
  exact (incipitref16_Bucket.calls k A c x d _ _ w (kd_of_rd h) h.le e).mono fun _ _ ⟨he, hu⟩ => ⟨he, hu.out⟩
set_option maxHeartbeats 1000000 in
theorem refInd_one (A : Option Addr) (c : Nat) (x : List Int) (Af : Option Addr) (fc : Nat) (l : List Int) (w : World) (h1 : x.length = 1) :
    Calls Try.prog 14 #[.slice A x.length c, .slice Af l.length fc] w (Ret1 w [0]) := by
  have hr0 : Rd (w.alloc (.cells (cellsOf .i64 [0]) 3)) .i64 (some ⟨w.heap.size, 0, none⟩) 1 [0] := Rd.of_cells (Blk.new w 3 _) rfl (by decide) fun y hy => by rw [List.mem_singleton.1 hy]; exact InK.of_i64 (by decide) (by decide)
  have ho : Own (w.alloc (.cells #[.int .i64 0] 3)) w.heap.size 3 .i64 (.slice (some ⟨w.heap.size, 0, none⟩) 1 1) [0] := Own.of_cells (Blk.new w 3 (cellsOf .i64 [0])) (Nat.le_refl _) rfl (by decide) fun y hy => by rw [List.mem_singleton.1 hy]; exact InK.of_i64 (by decide) (by decide)
  rw [h1]
  go_enter Try.func14, Try.ntmps14
  go_wp2_with fail
  go_ret
  exact ⟨_, rfl, ho, (Up.refl w).alloc _⟩
theorem c_refInd {x l : List Int} (hx : Txt x) (hb : x.length ≤ 65536) (hp : l.Perm (firstsL x)) (A : Option Addr) (c : Nat) (Af : Option Addr) (fc : Nat) (w : World) (h : Rd w .i64 A c x) (hl : Rd w .i64 Af fc l) :
    Calls Try.prog 14 #[.slice A x.length c, .slice Af l.length fc] w (Ret1 w (indL x l)) := by
  by_cases h1 : x.length = 1
  · rw [show indL x l = [0] by unfold indL; rw [if_pos h1]]
    exact refInd_one A c x Af fc l w h1
  · have h2 : 2 ≤ x.length := by have := hx.pos; omega
    have hfs := fsP_of hx hb h2 hp
    have hwf := (indL_wf hx hb hp)
    have hpos : 0 < l.length := List.length_pos_iff.2 hfs.2.1
    obtain ⟨b, o, rfl⟩ := h.plain hx.pos
    obtain ⟨b1, o1, rfl⟩ := hl.plain hpos
    obtain ⟨t1, t2, t3⟩ := (codes_of hx hb).codes.top
    have hln : (l.map Int.toNat).length = l.length := by simp
    have hl' := hl
    rw [hfs.nat] at hl'
    have := refInd_calls b o c x b1 o1 fc (l.map Int.toNat) w h h2 hb (topM x) t2 (Lib.hid t3) (Lib.hid (tx_of hx)) hl' (by rw [hln]; exact hfs.1) (Lib.hid hfs.nodup) (Lib.hid hfs.mem)
      (fun w' hu => Lib.hid (c_refKinds hx hb _ c w' (h.up hu))) (fun w' hu => Lib.hid (c_great hx hb _ c w' (h.up hu))) (fun w' d hu => Lib.hid (c_bucket hb d _ c w' (h.up hu)))
    rw [hln] at this
    rw [show indL x l = Ind.ind x (l.map Int.toNat) by unfold indL; rw [if_neg h1]] at hwf ⊢
    exact this.mono fun en w' ⟨O, he, hO, hbl, hu⟩ => ⟨_, he, Own.of_cells hbl hO hwf.1.symm (by rw [hwf.1]; omega) fun z hz => by have := hwf.2 z hz; exact InK.of_i64 (by omega) (by omega), hu⟩
theorem c_refNames {x : List Int} (hx : Txt x) (hb : x.length ≤ 65536) (A : Option Addr) (c : Nat) (o : List Int) (Ao : Option Addr) (co : Nat) (w : World) (h : Rd w .i64 A c x) (ho : Rd w .i64 Ao co o) (hol : o.length ≤ 65536) :
    Calls Try.prog 16 #[.slice A x.length c, .slice Ao o.length co] w fun e w' => ∃ v, e = .returned (.tuple #[v, .int .i64 (nmAll x (firstsN x) o).n]) ∧ Own w' w.heap.size 3 .i64 v (nmsL x (firstsN x) o) ∧ Up w w' := by
  obtain ⟨b, off, rfl⟩ := h.plain hx.pos
  have hf := firsts_ok x
  have hlen : (firstsN x).length ≤ x.length := by have := firstsL_len x; rw [firstsN_I, List.length_map] at this; omega
  have HF := c_refFirsts hx hb _ c w h
  rw [firstsN_I] at HF
  exact refNames_calls b off c x Ao co o (firstsN x) w h ho hb hol (by omega) (Lib.hid hf.up) (Lib.hid fun i hi => by
    obtain ⟨k, hk, rfl⟩ := List.mem_iff_getElem.1 hi
    have := (hf.get hk).1
    rwa [List.getD_eq_getElem?_getD, List.getElem?_eq_getElem hk] at this) (Lib.hid hx.rng) (Lib.hid HF)
end Go.Proofs.Ytmmacpicbonhhaa.SalPure

/- The walks of sais.Deepest and of ref17's Deepest and Unlike. -/
namespace Go.Proofs.Ytmmacpicbonhhaa
open Go.RowKit
set_option maxRecDepth 100000

/-- How often a number is halved. -/
def dpN (n : Nat) : Nat := if h : n = 0 then 0 else 1 + dpN (n / 2)
termination_by n
theorem dpN_zero : dpN 0 = 0 := by unfold dpN; simp
theorem dpN_pos (n : Nat) (h : 0 < n) : dpN n = 1 + dpN (n / 2) := by
  rw [dpN.eq_1 n, dif_neg (by omega)]
theorem dpN_le : ∀ m n : Nat, n ≤ m → dpN n ≤ n
  | 0, n, h => by rw [show n = 0 by omega, dpN_zero]; omega
  | m + 1, n, h => by
    by_cases h0 : n = 0
    · rw [h0, dpN_zero]; omega
    · rw [dpN_pos n (by omega)]
      have := dpN_le m (n / 2) (by omega)
      omega
theorem dpN_mono : ∀ m a b : Nat, b ≤ m → a ≤ b → dpN a ≤ dpN b
  | 0, a, b, h, h2 => by rw [show a = 0 by omega, show b = 0 by omega]; omega
  | m + 1, a, b, h, h2 => by
    by_cases h0 : a = 0
    · rw [h0, dpN_zero]; omega
    · rw [dpN_pos a (by omega), dpN_pos b (by omega)]
      have := dpN_mono m (a / 2) (b / 2) (by omega) (by omega)
      omega

set_option maxHeartbeats 1000000 in
theorem saDeepest_calls (n : Int) (w : World) (hn : InK .i64 n) : Calls Try.prog 28 #[.int .i64 n] w fun e w' => e = .returned (.int .i64 (dpN n.toNat : Nat)) ∧ w' = w := by
  have hr := hn.i64
  have HLE := Lib.hid (dpN_le n.toNat n.toNat (Nat.le_refl _))
  go_enter Try.func28, Try.ntmps28
  go_wp2_with fail
  go_loopw [0, 3] (fun a d wr => ∃ m k : Nat, (a = .int .i64 m ∨ (m = 0 ∧ a = .int .i64 n ∧ n < 1)) ∧ d = .int .i64 k ∧ Hid (k + dpN m = dpN n.toNat) ∧ (m : Int) ≤ 9223372036854775807 ∧ (k : Int) ≤ 9223372036854775807 - m ∧ wr = w) (fun a _ _ => (intOf a).toNat)
  case atStart =>
    by_cases h : n < 1
    · exact ⟨0, 0, .inr ⟨rfl, rfl, h⟩, rfl, Lib.hid (by rw [show n.toNat = 0 by omega]; exact Nat.zero_add _), by omega, by omega, rfl⟩
    · exact ⟨n.toNat, 0, .inl (by rw [Int.toNat_of_nonneg (by omega)]), rfl, Lib.hid (by omega), by omega, by omega, rfl⟩
  case round =>
    obtain ⟨m, k, hm, rfl, HK, hmb, hkb, rfl⟩ := hrel
    rcases hm with rfl | ⟨rfl, rfl, hlt⟩
    · by_cases h0 : m = 0
      · subst h0
        have HK2 := Lib.hid (show k = dpN n.toNat by have := HK.out; rw [dpN_zero] at this; omega)
        clear HK HLE
        go_wp2_with fail
        go_ret
        exact ⟨by rw [← HK2.out]; rfl, rfl⟩
      · have HK2 := Lib.hid (show k + 1 + dpN (m / 2) = dpN n.toNat by rw [← HK.out, dpN_pos m (by omega)]; omega)
        have h1 : (1 : Int) ≤ m := by omega
        clear HK HLE
        go_wp2_with fail
        refine ⟨⟨m / 2, k + 1, .inl (by simp), by simp, HK2, by omega, by omega, trivial⟩, ?_⟩
        simp [intOf]; omega
    · have HK2 := Lib.hid (show k = dpN n.toNat by have := HK.out; rw [dpN_zero] at this; omega)
      clear HK HLE
      go_wp2_with fail
      go_ret
      exact ⟨by rw [← HK2.out]; rfl, rfl⟩

set_option maxHeartbeats 1000000 in
theorem refDeepest_calls : ∀ (m : Nat) (n : Int) (w : World), n.toNat ≤ m → InK .i64 n → Calls Try.prog 31 #[.int .i64 n] w fun e w' => e = .returned (.int .i64 (dpN n.toNat : Nat)) ∧ w' = w := by
  intro m
  induction m with
  | zero =>
    intro n w hm hn
    have h1 : n < 1 := by omega
    have HD := Lib.hid (show dpN n.toNat = 0 by rw [show n.toNat = 0 by omega, dpN_zero])
    go_enter Try.func31, Try.ntmps31
    go_wp2_with fail
    go_ret
    exact ⟨by rw [HD.out]; rfl, rfl⟩
  | succ m ih =>
    intro n w hm hn
    by_cases h1 : n < 1
    · have HD := Lib.hid (show dpN n.toNat = 0 by rw [show n.toNat = 0 by omega, dpN_zero])
      clear ih
      go_enter Try.func31, Try.ntmps31
      go_wp2_with fail
      go_ret
      exact ⟨by rw [HD.out]; rfl, rfl⟩
    · obtain ⟨k, rfl⟩ := Int.eq_ofNat_of_zero_le (show 0 ≤ n by omega)
      have hr := hn.i64
      have HI := Lib.hid (ih ((k / 2 : Nat) : Int) w (by omega) (InK.of_i64 (by omega) (by omega)))
      have HL := Lib.hid (dpN_le (k / 2) (k / 2) (Nat.le_refl _))
      have HD := Lib.hid (show dpN ((k : Int)).toNat = 1 + dpN (k / 2) by rw [Int.toNat_natCast]; exact dpN_pos k (by omega))
      rw [Int.toNat_natCast] at HI
      have hk1 : 1 ≤ k := by omega
      have hdl : dpN (k / 2) ≤ k / 2 := HL.out
      have he : ((k / 2 : Nat) : Int) = (k : Int) / 2 := by omega
      rw [he] at HI
      generalize dpN (k / 2) = d at *
      clear ih HL he
      go_enter Try.func31, Try.ntmps31
      go_wp2_with fail
      refine (HI.out).mono ?_
      rintro en w1 ⟨rfl, rfl⟩
      go_wp2_with fail
      go_ret
      exact ⟨by rw [HD.out]; simp, rfl⟩

/-- The first k are unlike. -/
def ulK (l : List Int) (i k : Nat) : Prop := (∀ a b, a < i → b < a → l.getD a 0 ≠ l.getD b 0) ∧ ∀ b, b < k → l.getD i 0 ≠ l.getD b 0
theorem ulK_all (l : List Int) : ulK l l.length 0 ↔ l.Nodup := by
  rw [List.nodup_iff_pairwise_ne, List.pairwise_iff_getElem]
  constructor
  · intro h i j hi hj hij e
    refine h.1 j i hj hij ?_
    simp [List.getD_eq_getElem?_getD, hi, hj, e]
  · intro h
    refine ⟨fun a b ha hb e => ?_, fun b hb => by omega⟩
    have := h b a (by omega) ha hb
    simp [List.getD_eq_getElem?_getD, ha, show b < l.length by omega] at e
    exact this e.symm

set_option maxHeartbeats 2000000 in
theorem refUnlike_calls (A : Option Addr) (c : Nat) (l : List Int) (w : World) (h1 : Rd w .i64 A c l) (hl : l.length ≤ 65536) :
    Calls Try.prog 30 #[.slice A l.length c] w fun e w' => e = .returned (.bool (decide l.Nodup)) ∧ ∃ q, w' = w.drewN q := by
  go_enter Try.func30, Try.ntmps30
  go_wp2_with fail
  go_loopw [3, 4] (fun i _ wr => ∃ k : Nat, k ≤ l.length ∧ i = .int .i64 k ∧ Hid (ulK l k 0) ∧ Qt w wr) (fun i _ _ => l.length - (intOf i).toNat)
  case atStart => exact ⟨0, Nat.zero_le _, rfl, Lib.hid ⟨fun a b ha => absurd ha (by omega), fun b hb => by omega⟩, Qt.refl _⟩
  case round =>
    obtain ⟨i, hi, rfl, HU, hq⟩ := hrel
    by_cases hlt : i < l.length
    · go_wp2_with fail
      go_loopw [4] (fun j wr => ∃ k : Nat, k ≤ i ∧ j = .int .i64 k ∧ Hid (ulK l i k) ∧ Qt w wr) (fun j _ => i - (intOf j).toNat)
      case atStart => exact ⟨0, Nat.zero_le _, rfl, HU, hq⟩
      case round =>
        clear HU hq
        obtain ⟨k, hk, rfl, HU, hq⟩ := hrel
        obtain ⟨q, rfl⟩ := hq.out
        by_cases hlk : k < i
        · obtain ⟨ad, x, rfl, c1, HX, _⟩ := h1.get i hlt
          obtain ⟨ad2, y, e2, c2, HY, _⟩ := h1.get k (by omega)
          cases e2
          by_cases e : x = y
          · have HN := Lib.hid (show decide l.Nodup = false from decide_eq_false fun hn => ((ulK_all l).2 hn).1 i k hlt hlk (by rw [HX.out, HY.out, e]))
            subst e
            go_wp2_with fail
            go_quiet (fail)
            go_wp2_with fail
            go_ret
            exact ⟨by rw [HN.out]; rfl, by first | exact (hq.drewN _).out | (rw [← World.drewN_drewN]; exact (hq.drewN _).out)⟩
          · have eb : (x == y) = false := by simpa using e
            have HU2 := Lib.hid (show ulK l i (k + 1) from ⟨HU.out.1, fun b hb => by
              by_cases e3 : b = k
              · rw [e3, HX.out, HY.out]; exact e
              · exact HU.out.2 b (by omega)⟩)
            clear e HU
            go_wp2_with fail
            go_quiet (fail)
            go_wp2_with fail
            refine ⟨⟨k + 1, by omega, by simp, HU2, by first | exact hq.drewN _ | (rw [← World.drewN_drewN]; exact hq.drewN _)⟩, ?_⟩
            simp [intOf]; omega
        · have hke : k = i := by omega
          have HU2 := Lib.hid (show ulK l (i + 1) 0 from ⟨fun a b ha hb => by
            by_cases e3 : a = i
            · rw [e3]; exact HU.out.2 b (by omega)
            · exact HU.out.1 a b (by omega) hb, fun b hb => by omega⟩)
          clear HU
          go_wp2_with fail
          refine ⟨⟨i + 1, by omega, by simp, HU2, hq⟩, ?_⟩
          simp [intOf]; omega
    · have hie : i = l.length := by omega
      subst hie
      obtain ⟨q, rfl⟩ := hq.out
      have HN := Lib.hid (decide_eq_true ((ulK_all l).1 HU.out))
      go_wp2_with fail
      go_ret
      exact ⟨by rw [HN.out]; rfl, hq.out⟩
end Go.Proofs.Ytmmacpicbonhhaa

/- The walk of ref17.Levels. -/
namespace Go.Proofs.Ytmmacpicbonhhaa.SalPure
open Go.RowKit Go.Proofs.Ytmmacpicbonhhaa
set_option maxRecDepth 100000
set_option linter.unusedVariables false

set_option maxHeartbeats 4000000 in
theorem refLevels_calls {x : List Int} (hx : Txt x) (hb : x.length ≤ 65535) (A : Option Addr) (c b0 : Nat) (w : World) (h1 : Own w b0 3 .i64 (.slice A x.length c) x) :
    Calls Try.prog 27 #[.slice A x.length c] w fun e w' => ∃ v d, e = .returned v ∧ OwnL w' w.heap.size 22 3 .i64 w'.heap.size v (lvs x d) ∧ Up w w' ∧ (∀ k, k < d → more (lv x k) = true) ∧ more (lv x d) = false := by
  have hl1 := OwnL.lit1 w b0 w.heap.size 22 3 _ x h1 (Nat.le_refl _)
  have hua : Up w (w.alloc (.cells #[.slice A x.length c] 22)) := (Up.refl w).alloc _
  have hsz : (w.alloc (.cells #[.slice A x.length c] 22)).heap.size = w.heap.size + 1 := by simp
  have hr1 : Rd w .i64 A c x := by
    obtain ⟨A', c', e, hr⟩ := h1.rd
    cases e
    exact hr
  clear h1
  go_enter Try.func27, Try.ntmps27
  go_wp2_with fail
  go_loopw [0, 2, 3, 4, 5] (fun t _ s _ _ wr => ∃ d At ct, t = .slice At (lv x d).length ct ∧ Rd wr .i64 At ct (lv x d) ∧ OwnL wr w.heap.size 22 3 .i64 wr.heap.size s (lvs x d) ∧ Up w wr ∧ ∀ k, k < d → more (lv x k) = true) (fun _ _ s _ _ _ => x.length + 1 - lenOf s)
  case atStart => exact ⟨0, A, c, rfl, hr1.up hua, hl1.mono (by omega), hua, fun k hk => absurd hk (by omega)⟩
  case round =>
    clear hl1 hua hsz hr1
    obtain ⟨d, At, ct, rfl, hrt, hv, hu, hm⟩ := hrel
    have hdl := lv_down d hm
    have hT := lv_txt hx hb d hm
    have hpos := hT.pos
    obtain ⟨As, cs, rfl, hrl⟩ := hv.rd
    have HM := Lib.hid hm
    have HNX := Lib.hid (show lvs x (d + 1) = lvs x d ++ [red (lv x d)] by rw [lvs_succ]; rfl)
    have HLD := Lib.hid (show lv x (d + 1) = red (lv x d) from rfl)
    rw [lvs_len] at hv
    have HV := Lib.hid hv
    have hst := hv.lt
    generalize ht : lv x d = t at *
    have HTT := Lib.hid ht
    clear ht
    clear hv hrl hm
    rw [lvs_len]
    go_wp2_with fail
    refine (refUnlike_calls At ct t wr hrt (by omega)).mono ?_
    rintro en w3 ⟨rfl, q3, rfl⟩
    have hu3 : Up wr (wr.drewN q3) := (Up.refl wr).drewN q3
    have hrt3 := hrt.up hu3
    have HV3 := Lib.hid (HV.out.up hu3)
    have hU := hu.trans hu3
    generalize wr.drewN q3 = w3 at *
    clear hrt HV hu
    cases hnd : decide t.Nodup with
    | true =>
      have HB := Lib.hid (show more t = false by unfold more; rw [hnd]; rfl)
      clear hnd
      go_wp2_with fail
      go_ret
      exact ⟨_, d, rfl, HV3.out.mono hu3.size, hU, HM.out, by rw [HTT.out]; exact HB.out⟩
    | false =>
      have HMB := Lib.hid (more_bits hnd)
      have hiw : (indL t (firstsL t)).length ≤ 65535 := by rw [(indL_wf hT (by omega) (List.Perm.refl (firstsL t))).1]; omega
      clear hnd
      go_wp2_with fail
      refine (c_refFirsts hT (by omega) At ct w3 hrt3).mono ?_
      rintro en w4 ⟨v4, rfl, hv4, hu4⟩
      obtain ⟨A4, c4, rfl, hr4⟩ := hv4.rd
      have hrt4 := hrt3.up hu4
      clear hv4 hrt3
      go_wp2_with fail
      refine (c_refInd hT (by omega) (List.Perm.refl _) At ct A4 c4 w4 hrt4 hr4).mono ?_
      rintro en w5 ⟨v5, rfl, hv5, hu5⟩
      obtain ⟨A5, c5, rfl, hr5⟩ := hv5.rd
      have hrt5 := hrt4.up hu5
      clear hv5 hrt4 hr4
      have HNM := Lib.hid (c_refNames hT (by omega) At ct (indL t (firstsL t)) A5 c5 w5 hrt5 hr5 (by omega))
      rw [show nmsL t (firstsN t) (indL t (firstsL t)) = red t from rfl] at HNM
      generalize indL t (firstsL t) = o at *
      generalize (nmAll t (firstsN t) o).n = nn at *
      clear hr5
      go_wp2_with fail
      refine (HNM.out).mono ?_
      rintro en w6 ⟨v6, rfl, hv6, hu6⟩
      clear HNM
      have hh := red_half t
      obtain ⟨A6, c6, rfl, hr6⟩ := hv6.rd
      have hUs := (hu4.trans hu5).trans hu6
      have HV6 := Lib.hid (HV3.out.up hUs)
      have hU6 := hU.trans hUs
      have hz : wr.heap.size ≤ w6.heap.size := Nat.le_trans hu3.size hUs.size
      have hz3 := hu3.size
      have hgz : wr.heap.size ≤ w5.heap.size := Nat.le_trans hu3.size (hu4.trans hu5).size
      clear HV3 hU hrt5 hu4 hu5
      by_cases h2 : (red t).length < 2
      · have HB := Lib.hid (show more t = false by rw [HMB.out, decide_eq_true h2]; rfl)
        generalize red t = rt at *
        go_wp2_with fail
        go_ret
        exact ⟨_, d, rfl, HV6.out.mono hz, hU6, HM.out, by rw [HTT.out]; exact HB.out⟩
      · have HB := Lib.hid (show more t = true by rw [HMB.out, decide_eq_false h2]; rfl)
        generalize red t = rt at *
        have HDN : Hid (∀ k, k < d + 1 → more (lv x k) = true) := Lib.hid fun k hk => by
          by_cases e : k = d
          · rw [e, HTT.out]; exact HB.out
          · exact HM.out k (by omega)
        have hzU := hU6.size
        go_wp2_with (refine wpl_pushL (t := 43) w.heap.size 22 3 .i64 wr.heap.size Try.underlying43 infoInts8 (by decide) _ (lvs x d) w5.heap.size _ rt rfl (fun _ => rfl) (fun _ => rfl) HV6.out hv6 (by omega) (by rw [lvs_len]; omega) (by omega) ?_; intro v7 w7 hv7 hu7; rw [← HNX.out] at hv7)
        have hU7 : Up w w7 := hU6.thenx hu7 fun i hi e => by have := (hst i e).1; omega
        have hr7 : Rd w7 .i64 A6 c6 rt := hr6.upx hu7 fun ad e hp e9 => by
          have h3 := (hst _ e9).2
          have h4 := (hv6.lt ad.block (by rw [e]; rfl)).1
          omega
        have hz7 := hu7.size
        refine ⟨⟨d + 1, A6, c6, by rw [HLD.out], by rw [HLD.out]; exact hr7, hv7.mono (by omega), hU7, HDN.out⟩, ?_⟩
        obtain ⟨A7, c7, e7, _⟩ := hv7.rd
        rw [lvs_len] at e7
        subst e7
        simp [lenOf]; omega
end Go.Proofs.Ytmmacpicbonhhaa.SalPure
