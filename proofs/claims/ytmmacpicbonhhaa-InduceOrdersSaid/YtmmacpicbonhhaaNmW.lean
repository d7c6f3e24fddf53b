/- The walk of induce's named. -/
import Derived.Test.YtmmacpicbonhhaaPieces
import Derived.Test.YtmmacpicbonhhaaIndM
namespace Go.Proofs.Ytmmacpicbonhhaa
open Go.RowKit
set_option maxRecDepth 100000

/-- The number of a first S. -/
def pcIx (fs : List Nat) (z : Int) : Option Nat := fs.findIdx? fun (i : Nat) => decide ((i : Int) = z)
theorem pcIx_some {fs : List Nat} {z : Int} {k : Nat} (h : pcIx fs z = some k) : k < fs.length ∧ (fs.getD k 0 : Int) = z := by
  unfold pcIx at h
  rw [List.findIdx?_eq_some_iff_getElem] at h
  obtain ⟨hk, h1, _⟩ := h
  refine ⟨hk, ?_⟩
  rw [List.getD_eq_getElem?_getD, List.getElem?_eq_getElem hk]
  simpa using h1
theorem pcIx_none {fs : List Nat} {z : Int} (h : pcIx fs z = none) : ∀ i ∈ fs, (i : Int) ≠ z := by
  unfold pcIx at h
  rw [List.findIdx?_eq_none_iff] at h
  intro i hi
  simpa using h i hi
theorem pcM_none (b off n : Nat) (fs : List Nat) (z : Int) (h : ∀ i ∈ fs, (i : Int) ≠ z) : ∀ k, k ≤ fs.length → pcM b off n fs k z = none
  | 0, _ => rfl
  | k + 1, hk => by
    show (if z = (fs.getD k 0 : Int) then _ else pcM b off n fs k z) = none
    rw [if_neg (fun e => h (fs.getD k 0) (by rw [List.getD_eq_getElem?_getD, List.getElem?_eq_getElem (by omega)]; exact List.getElem_mem _) e.symm)]
    exact pcM_none b off n fs z h k (by omega)
theorem pcM_some (b off n : Nat) (fs : List Nat) (hU : fs.Pairwise (· < ·)) (j : Nat) (hj : j < fs.length) : ∀ k, k ≤ fs.length → j < k → pcM b off n fs k (fs.getD j 0 : Int) = some (pcV b off n fs j)
  | 0, _, h => by omega
  | k + 1, hk, h => by
    show (if (fs.getD j 0 : Int) = (fs.getD k 0 : Int) then some (pcV b off n fs k) else pcM b off n fs k _) = _
    by_cases e : j = k
    · subst e; rw [if_pos rfl]
    · rw [if_neg (fun h2 => by
        have := List.pairwise_iff_getElem.1 hU j k hj (by omega) (by omega)
        simp [List.getD_eq_getElem?_getD, hj, show k < fs.length by omega] at h2
        omega)]
      exact pcM_some b off n fs hU j hj k (by omega) (by omega)

/-- Names on the way: how many, the piece ahead, the names so far. -/
structure NmS where
  n : Nat
  ahead : List Int
  nm : Int → Option Int
def nmStep (x : List Int) (fs : List Nat) (s : NmS) (z : Int) : NmS :=
  match pcIx fs z with
  | none => s
  | some k => ⟨if s.n = 0 ∨ Ind.pieceN x fs k ≠ s.ahead then s.n + 1 else s.n, Ind.pieceN x fs k, fun y => if y = z then some (((if s.n = 0 ∨ Ind.pieceN x fs k ≠ s.ahead then s.n + 1 else s.n : Nat) : Int) - 1) else s.nm y⟩
def nmAll (x : List Int) (fs : List Nat) (o : List Int) : NmS := o.foldl (nmStep x fs) ⟨0, [], fun _ => none⟩
theorem nmAll_snoc (x : List Int) (fs : List Nat) (o : List Int) (k : Nat) (h : k < o.length) : nmAll x fs (o.take (k + 1)) = nmStep x fs (nmAll x fs (o.take k)) (o.getD k 0) := by
  unfold nmAll
  rw [take_succ_getD o k 0 h, List.foldl_append]
  rfl
theorem nmAll_n (x : List Int) (fs : List Nat) (o : List Int) : ∀ k, k ≤ o.length → (nmAll x fs (o.take k)).n ≤ k
  | 0, _ => by rw [List.take_zero]; exact Nat.le_refl _
  | k + 1, h => by
    have ih := nmAll_n x fs o k (by omega)
    rw [nmAll_snoc x fs o k (by omega)]
    generalize nmAll x fs (o.take k) = s at *
    obtain ⟨n, a, f⟩ := s
    have ih : n ≤ k := ih
    unfold nmStep
    split
    · show n ≤ k + 1
      omega
    · next j _ =>
      show (if n = 0 ∨ Ind.pieceN x fs j ≠ a then n + 1 else n) ≤ k + 1
      split <;> omega
theorem nmAll_rng (x : List Int) (fs : List Nat) (o : List Int) : ∀ k, k ≤ o.length → ∀ y v, (nmAll x fs (o.take k)).nm y = some v → 0 ≤ v ∧ v < (k : Int)
  | 0, _ => by
    rw [List.take_zero]
    intro y v h
    cases h
  | k + 1, h => by
    have ih := nmAll_rng x fs o k (by omega)
    have hn := nmAll_n x fs o k (by omega)
    rw [nmAll_snoc x fs o k (by omega)]
    generalize nmAll x fs (o.take k) = s at *
    obtain ⟨n, a, f⟩ := s
    have hn : n ≤ k := hn
    have ih : ∀ y v, f y = some v → 0 ≤ v ∧ v < (k : Int) := ih
    unfold nmStep
    intro y v hv
    split at hv
    · have := ih y v hv
      omega
    · next j _ =>
      have hv : (if y = o.getD k 0 then some (((if n = 0 ∨ Ind.pieceN x fs j ≠ a then n + 1 else n : Nat) : Int) - 1) else f y) = some v := hv
      by_cases e : y = o.getD k 0
      · rw [if_pos e] at hv
        have hv := Option.some.inj hv
        by_cases c : n = 0 ∨ Ind.pieceN x fs j ≠ a
        · rw [if_pos c] at hv; omega
        · rw [if_neg c] at hv
          have : n ≠ 0 := fun h => c (.inl h)
          omega
      · rw [if_neg e] at hv
        have := ih y v hv
        omega
theorem pcV_rd {w : World} {b off c : Nat} {x : List Int} (hrd : Rd w .i64 (some ⟨b, off, none⟩) c x) {fs : List Nat} (hU : fs.Pairwise (· < ·)) (hX : ∀ i ∈ fs, i < x.length) (k : Nat) (hk : k < fs.length) :
    b < w.heap.size ∧ ∃ i m, pcV b off x.length fs k = .slice (some ⟨b, i, none⟩) (Ind.pieceN x fs k).length m ∧ Rd w .i64 (some ⟨b, i, none⟩) m (Ind.pieceN x fs k) := by
  have hix : fs.getD k 0 < x.length := hX _ (by rw [List.getD_eq_getElem?_getD, List.getElem?_eq_getElem hk]; exact List.getElem_mem hk)
  have ht : fs.getD k 0 < pcTo x.length fs k ∧ pcTo x.length fs k ≤ x.length ∧ Ind.pieceN x fs k = (x.take (pcTo x.length fs k)).drop (fs.getD k 0) := by
    unfold pcTo Ind.pieceN
    by_cases h : k + 1 < fs.length
    · rw [if_pos h, if_pos h]
      have h1 := List.pairwise_iff_getElem.1 hU k (k + 1) hk h (by omega)
      have h2 : fs.getD (k + 1) 0 < x.length := hX _ (by rw [List.getD_eq_getElem?_getD, List.getElem?_eq_getElem h]; exact List.getElem_mem h)
      have h3 : fs.getD k 0 < fs.getD (k + 1) 0 := by simpa [List.getD_eq_getElem?_getD, hk, h] using h1
      exact ⟨by omega, by omega, rfl⟩
    · rw [if_neg h, if_neg h, List.take_length]
      exact ⟨hix, Nat.le_refl _, rfl⟩
  obtain ⟨h1, h2, h3⟩ := ht
  have hle := hrd.le
  have hc := hrd.cut (fs.getD k 0) (pcTo x.length fs k) (pcTo x.length fs k) (by omega) h2 (Nat.le_refl _) (by omega)
  rw [if_neg (by omega), ← h3, Option.map_some, add_at] at hc
  refine ⟨World.block_lt_of_cell? w ((⟨b, off, none⟩ : Addr).add 0) (hrd.cell _ rfl 0 (by omega)), _, _, ?_, hc⟩
  unfold pcV
  rw [h3, List.length_drop, List.length_take, Nat.min_eq_left h2]

theorem zero_tints (w : World) : (zeroValue 22).run Try.prog w = .ok (.slice none 0 0) w := by rfl
theorem zero_tint (w : World) : (zeroValue 3).run Try.prog w = .ok (.int .i64 0) w := by rfl
theorem nm_done {P : Program} {kt : TypeId} {w' : World} {m2 k n' : Nat} {s : NmS} {p : List Int} {z : Int} {f : Int → Option Int} {v : Value} (he : s = ⟨n', p, fun y => if y = z then some ((n' : Int) - 1) else f y⟩)
    (hm : MapI P kt w' m2 (k + 1) (fun y => if y = z then some v else (f y).map (Value.int .i64))) (hv : v = .int .i64 ((n' : Int) - 1)) : MapI P kt w' m2 (k + 1) (fun y => (s.nm y).map (Value.int .i64)) := by
  subst he hv
  refine hm.congr fun y => ?_
  by_cases e : y = z
  · simp [e]
  · simp [e]
set_option maxHeartbeats 4000000 in
theorem indNamed_calls (b off c : Nat) (x : List Int) (A1 : Option Addr) (c1 : Nat) (o : List Int) (w : World) (hrd : Rd w .i64 (some ⟨b, off, none⟩) c x) (hrd1 : Rd w .i64 A1 c1 o) (hl : x.length ≤ 65536) (hol : o.length ≤ 65536)
    (fs : List Nat) (HU : Hid (fs.Pairwise (· < ·))) (HX : Hid (∀ i ∈ fs, i < x.length)) (hfl : fs.length ≤ 65536)
    (HF : ∀ w', Up w w' → Hid (Calls Try.prog 38 #[.slice (some ⟨b, off, none⟩) x.length c] w' (Ret2 w' (fs.map fun (i : Nat) => (i : Int)) 0))) :
    Calls Try.prog 47 #[.slice (some ⟨b, off, none⟩) x.length c, .slice A1 o.length c1] w (Ret2 w (fs.map fun (i : Nat) => ((nmAll x fs o).nm (i : Int)).getD 0) ((nmAll x fs o).n : Int)) := by
  have hmm := @run_makeMap Try.prog
  have HP := Lib.hid (indPieces_calls b off c x w hrd hl fs HU HX hfl (HF w (Up.refl w)))
  go_enter Try.func47, Try.ntmps47
  go_wp2_with fail
  refine (HP.out).mono ?_
  rintro en w1 ⟨m1, rfl, hm1, hmp, hu1⟩
  clear HP
  go_wp2_with fail
  have hm2 := MapI.made Try.prog 3 w1
  have hum : Up w1 (w1.alloc (.map #[] 0)) := (Up.refl w1).alloc _
  have hmp2 := hmp.up hum
  have hmlt := hmp.lt
  have hu := hu1.trans hum
  have hsz : (w1.alloc (.map #[] 0)).heap.size = w1.heap.size + 1 := by simp
  have hs1 := hu1.size
  generalize w1.alloc (.map #[] 0) = wm at *
  generalize w1.heap.size = m2 at *
  clear hum hmp hu1 hmm
  go_loopw [8, 9, 11, 12, 13, 24] (fun n a _ _ _ i wr => ∃ (k : Nat) (av : Option Addr) (ac : Nat), k ≤ o.length ∧ i = .int .i64 k ∧ n = .int .i64 ((nmAll x fs (o.take k)).n : Int) ∧ a = .slice av (nmAll x fs (o.take k)).ahead.length ac ∧
      Rd wr .i64 av ac (nmAll x fs (o.take k)).ahead ∧ MapI Try.prog 3 wr m2 k (fun y => ((nmAll x fs (o.take k)).nm y).map (Value.int .i64)) ∧ UpX (fun c => c = m2) wm wr) (fun _ _ _ _ _ i _ => o.length - (intOf i).toNat)
  case atStart =>
    refine ⟨0, none, 0, Nat.zero_le _, rfl, rfl, rfl, Rd.nil _ _, ?_, UpX.refl _ _⟩
    rw [List.take_zero]
    exact hm2
  case round =>
    clear hm2
    obtain ⟨k, av, ac, hk, rfl, rfl, rfl, hrv, hmr, hx⟩ := hrel
    by_cases hlt : k < o.length
    · obtain ⟨ad, z, rfl, hc, HZ, hzK⟩ := hrd1.get k hlt
      have hc' := (hu.x (fun c => c = m2)).trans hx |>.cell hc (fun e => by
        have := World.block_lt_of_cell? w (ad.add k) hc
        omega)
      have hmp3 := hmp2.upx hx (by omega)
      have HST := Lib.hid (nmAll_snoc x fs o k hlt)
      have HN := Lib.hid (nmAll_n x fs o k (by omega))
      rw [HZ.out] at HST
      clear hc
      generalize nmAll x fs (o.take k) = s at *
      obtain ⟨n, ahd, f⟩ := s
      simp only at hrv hmr
      have hn : n ≤ k := HN.out
      have hlook := (hmp3.look Try.underlying3 Try.underlying81 (zero_tints wr) z hzK).1
      cases hix : pcIx fs z with
      | none =>
        have HE := Lib.hid (show nmAll x fs (o.take (k + 1)) = ⟨n, ahd, f⟩ by
          rw [HST.out]
          unfold nmStep
          rw [hix])
        rw [pcM_none b off x.length fs z (pcIx_none hix) fs.length (Nat.le_refl _)] at hlook
        have hlook : (Instr.lookup 81 (.map (some m1)) (.int .i64 z) true).run Try.prog wr = .ok (.tuple #[.slice none 0 0, .bool false]) wr := hlook
        clear HST hmp3
        go_wp2_with fail
        refine ⟨⟨k + 1, av, ac, by omega, by simp, by rw [HE.out], by rw [HE.out], by rw [HE.out]; exact hrv, by rw [HE.out]; exact hmr.mono (by omega), hx⟩, ?_⟩
        simp [intOf]; omega
      | some j =>
        obtain ⟨hj, hz⟩ := pcIx_some hix
        have hrw : Rd wr .i64 (some ⟨b, off, none⟩) c x := hrd.upx ((hu.x (fun c => c = m2)).trans hx) fun ad e hp e2 => by
          have := World.block_lt_of_cell? w (ad.add 0) (hrd.cell ad e 0 hp)
          rw [add_block] at this
          omega
        obtain ⟨ip, mp, hpv, hrp⟩ := (pcV_rd hrw HU.out HX.out j hj).2
        have hbw := (pcV_rd hrd HU.out HX.out j hj).1
        rw [← hz, pcM_some b off x.length fs HU.out j hj fs.length (Nat.le_refl _) hj, hz, hpv] at hlook
        have hlook : (Instr.lookup 81 (.map (some m1)) (.int .i64 z) true).run Try.prog wr = .ok (.tuple #[.slice (some ⟨b, ip, none⟩) (Ind.pieceN x fs j).length mp, .bool true]) wr := hlook
        have HE : Hid (nmAll x fs (o.take (k + 1)) = ⟨if n = 0 ∨ Ind.pieceN x fs j ≠ ahd then n + 1 else n, Ind.pieceN x fs j, fun y => if y = z then some (((if n = 0 ∨ Ind.pieceN x fs j ≠ ahd then n + 1 else n : Nat) : Int) - 1) else f y⟩) := Lib.hid (by
          rw [HST.out]
          unfold nmStep
          rw [hix])
        have hkm : k < maxLen := by simp only [maxLen]; omega
        have HEQ := Lib.hid (equal_calls (some ⟨b, ip, none⟩) av mp ac (Ind.pieceN x fs j) ahd wr hrp hrv)
        have HM := Lib.hid hmr
        have HX2 := Lib.hid hx
        have HRP := Lib.hid hrp
        clear HST hmp3 hpv hrw hz hj hix hmr hx hrp hrv
        generalize Ind.pieceN x fs j = p at *
        by_cases hn0 : n = 0
        · subst hn0
          have HE := Lib.hid (HE.out.trans (by rw [if_pos (Or.inl rfl)]))
          go_wp2_with (refine wpl_mapPut _ rfl _ _ _ 83 rfl 3 3 Try.underlying3 Try.underlying83 m2 k _ rfl HM.out hkm z _ rfl hzK rfl ?_; intro w' hm' hx')
          refine ⟨⟨k + 1, some ⟨b, ip, none⟩, mp, by omega, by simp, by rw [HE.out]; rfl, by rw [HE.out], by rw [HE.out]; exact HRP.out.upx hx' fun ad e _ e2 => by cases e; have : b = m2 := e2; omega, nm_done HE.out hm' (by simp [Act.eval]), HX2.out.trans hx'⟩, ?_⟩
          simp [intOf]; omega
        · have hnb : ((n : Int) == 0) = false := by simpa using hn0
          go_wp2_with fail
          refine (HEQ.out).mono ?_
          rintro en w3 ⟨rfl, q, rfl⟩
          have HM := Lib.hid (HM.out.up ((Up.refl wr).drewN q))
          by_cases hpa : p = ahd
          · rw [decide_eq_true hpa]
            have HE := Lib.hid (HE.out.trans (by rw [if_neg (show ¬ (n = 0 ∨ p ≠ ahd) by rintro (h | h); exact hn0 h; exact h hpa)]))
            clear hpa
            go_wp2_with (refine wpl_mapPut _ rfl _ _ _ 83 rfl 3 3 Try.underlying3 Try.underlying83 m2 k _ rfl HM.out hkm z _ rfl hzK rfl ?_; intro w' hm' hx')
            refine ⟨⟨k + 1, some ⟨b, ip, none⟩, mp, by omega, by simp, by rw [HE.out], by rw [HE.out], by rw [HE.out]; exact (HRP.out.up ((Up.refl wr).drewN q)).upx hx' fun ad e _ e2 => by cases e; have : b = m2 := e2; omega, nm_done HE.out hm' (by simp [Act.eval]), (HX2.out.drewN q).trans hx'⟩, ?_⟩
            simp [intOf]; omega
          · rw [decide_eq_false hpa]
            have HE := Lib.hid (HE.out.trans (by rw [if_pos (show n = 0 ∨ p ≠ ahd from .inr hpa)]))
            clear hpa
            go_wp2_with (refine wpl_mapPut _ rfl _ _ _ 83 rfl 3 3 Try.underlying3 Try.underlying83 m2 k _ rfl HM.out hkm z _ rfl hzK rfl ?_; intro w' hm' hx')
            refine ⟨⟨k + 1, some ⟨b, ip, none⟩, mp, by omega, by simp, by rw [HE.out]; simp, by rw [HE.out], by rw [HE.out]; exact (HRP.out.up ((Up.refl wr).drewN q)).upx hx' fun ad e _ e2 => by cases e; have : b = m2 := e2; omega, nm_done HE.out hm' (by simp [Act.eval]), (HX2.out.drewN q).trans hx'⟩, ?_⟩
            simp [intOf]; omega
    · have hke : k = o.length := by omega
      subst hke
      have hrng := nmAll_rng x fs o o.length (Nat.le_refl _)
      rw [List.take_length] at hrv hmr hrng ⊢
      clear hrv
      obtain ⟨s, hs⟩ : ∃ s, nmAll x fs o = s := ⟨_, rfl⟩
      rw [hs] at hmr hrng ⊢
      obtain ⟨n, ahd, f⟩ := s
      simp only at hmr hrng
      have HSE := Lib.hid hs
      clear hs
      have HRG := Lib.hid hrng
      have huw : Up w wr := hu.thenx hx fun i hi e => by omega
      have HFF := HF wr huw
      clear hrng hx hu
      go_wp2_with fail
      refine (HFF.out).mono ?_
      rintro en w4 ⟨v4, rfl, hv4, hu4⟩
      clear HFF HF
      have hmr4 := hmr.up hu4
      obtain ⟨zs, hzs⟩ : ∃ zs, (fs.map fun (i : Nat) => (i : Int)) = zs := ⟨_, rfl⟩
      have hzl : zs.length = fs.length := by rw [← hzs, List.length_map]
      rw [hzs] at hv4
      obtain ⟨A4, c4, rfl, hr4⟩ := hv4.rd
      have hu5 := huw.trans hu4
      have HZS := Lib.hid hzs
      have HZL := Lib.hid hzl
      clear hv4 hu4 huw hmr hzs hzl
      go_wp2_with fail
      go_loopw [16, 18, 59] (fun out _ i wq => ∃ j : Nat, j ≤ zs.length ∧ i = .int .i64 j ∧ Own wq w4.heap.size 3 .i64 out ((zs.take j).map fun z => (f z).getD 0) ∧ Up w4 wq) (fun _ _ i _ => zs.length - (intOf i).toNat)
      case atStart => exact ⟨0, Nat.zero_le _, rfl, by rw [List.take_zero]; exact Own.nil _ _ _ _, Up.refl _⟩
      case round =>
        obtain ⟨j, hj, rfl, ho, hq⟩ := hrel
        by_cases hjl : j < zs.length
        · obtain ⟨ad, z, rfl, hc, HZ, hzK⟩ := hr4.get j hjl
          have hc' := hq.cell hc
          have hmq := hmr4.up hq
          have hlook0 := (hmq.look Try.underlying3 Try.underlying83 (zero_tint wr) z hzK).2
          have hlook : (Instr.lookup 83 (.map (some m2)) (.int .i64 z) false).run Try.prog wr = .ok (.int .i64 ((f z).getD 0)) wr := by
            rw [hlook0]
            cases f z <;> rfl
          clear hlook0
          have hfK : InK .i64 ((f z).getD 0) := by
            cases hf : f z with
            | none => exact InK.of_i64 (by decide) (by decide)
            | some v =>
              have := HRG.out z v hf
              exact InK.of_i64 (show -9223372036854775808 ≤ v by omega) (show v ≤ 9223372036854775807 by omega)
          have HTK := Lib.hid (show (zs.take (j + 1)).map (fun z => (f z).getD 0) = (zs.take j).map (fun z => (f z).getD 0) ++ [(f z).getD 0] by
            rw [take_succ_getD zs j 0 hjl, HZ.out, List.map_append]; rfl)
          have hlen : ((zs.take j).map fun z => (f z).getD 0).length ≤ 65536 := by rw [List.length_map, List.length_take, HZL.out]; omega
          have hq' := hq.size
          have hzb : zs.length ≤ 65536 := by rw [HZL.out]; exact hfl
          generalize (f z).getD 0 = y at *
          generalize (zs.take j).map (fun z => (f z).getD 0) = pre at *
          clear hmq hc HZ
          obtain ⟨Ao, co, rfl, hro⟩ := ho.rd
          go_wp2_with (refine wpl_push_int w4.heap.size 3 .i64 8 Try.underlying22 infoInt9 _ pre y rfl hfK (fun _ => rfl) (fun _ => rfl) ho (by omega) (by decide) (by omega) ?_; intro v' w' hv' hu'; have huu := hq.thenx hu' (fun q hq2 e => by have := (ho.lt _ e).1; omega); obtain ⟨A', c', rfl, _⟩ := hv'.rd)
          refine ⟨⟨j + 1, by omega, by simp, by rw [HTK.out]; simpa using hv', huu⟩, ?_⟩
          simp [intOf]; omega
        · have hje : j = zs.length := by omega
          subst hje
          rw [List.take_length] at ho
          go_wp2_with fail
          go_ret2
          have e : (fs.map fun (i : Nat) => (f (i : Int)).getD 0) = zs.map fun z => (f z).getD 0 := by rw [← HZS.out, List.map_map]; rfl
          exact ⟨_, by rw [HSE.out]; rfl, by rw [HSE.out]; show Own _ _ _ _ _ (fs.map fun (i : Nat) => (f (i : Int)).getD 0); rw [e]; exact ho.mono hu5.size, hu5.trans hq⟩
end Go.Proofs.Ytmmacpicbonhhaa
