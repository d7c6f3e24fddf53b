/- The walk of ref16.Induce. -/
import Derived.Test.YtmmacpicbonhhaaIndd
import Derived.Test.YtmmacpicbonhhaaWkM
namespace Go.Proofs.Ytmmacpicbonhhaa
open Go.RowKit
set_option maxRecDepth 100000

theorem lg_room {x : List Int} (ht : Ind.Tx x) {sd rk : Nat → Nat} {o : List Int} (hs : Ind.Seeds x o sd rk) (k : Nat) (hk : k < x.length) (h0 : 0 ≤ (Ind.lgN x o k).1.getD k (-1) - 1) (hL : Ind.knd x ((Ind.lgN x o k).1.getD k (-1) - 1).toNat = false) :
    Ind.hd x (x.getD ((Ind.lgN x o k).1.getD k (-1) - 1).toNat 0) ≤ (Ind.lgN x o k).2 (x.getD ((Ind.lgN x o k).1.getD k (-1) - 1).toNat 0) ∧
    (∀ s, Ind.hd x (x.getD ((Ind.lgN x o k).1.getD k (-1) - 1).toNat 0) ≤ s → s < (Ind.lgN x o k).2 (x.getD ((Ind.lgN x o k).1.getD k (-1) - 1).toNat 0) → 0 ≤ (Ind.lgN x o k).1.getD s (-1)) ∧
    (Ind.lgN x o k).1.getD ((Ind.lgN x o k).2 (x.getD ((Ind.lgN x o k).1.getD k (-1) - 1).toNat 0)) (-1) = -1 := by
  have hp := Ind.lg_all ht hs k (by omega)
  generalize Ind.lgN x o k = st at *
  obtain ⟨p, h⟩ := st
  have hp : Ind.P1 x sd k p h := hp
  have h0 : 0 ≤ p.getD k (-1) - 1 := h0
  have hL : Ind.knd x (p.getD k (-1) - 1).toNat = false := hL
  show Ind.hd x (x.getD (p.getD k (-1) - 1).toNat 0) ≤ h (x.getD (p.getD k (-1) - 1).toNat 0) ∧ (∀ s, Ind.hd x (x.getD (p.getD k (-1) - 1).toNat 0) ≤ s → s < h (x.getD (p.getD k (-1) - 1).toNat 0) → 0 ≤ p.getD s (-1)) ∧ p.getD (h (x.getD (p.getD k (-1) - 1).toNat 0)) (-1) = -1
  have hr : p.getD k (-1) = -1 ∨ ∃ i : Nat, i < x.length ∧ p.getD k (-1) = (i : Int) := by
    rcases hp.what k hk with e | ⟨i, hi, _, _, e⟩ | ⟨i, hi, _, e, _⟩
    · exact .inl e
    · exact .inr ⟨i, hi, e⟩
    · exact .inr ⟨i, hi, e⟩
  have hv : p.getD k (-1) = (((p.getD k (-1) - 1).toNat + 1 : Nat) : Int) := by omega
  have hi : (p.getD k (-1) - 1).toNat < x.length := by rcases hr with e | ⟨i, hi, e⟩ <;> omega
  obtain ⟨_, _, he, _⟩ := hp.put ht hs hk hi hL hv
  exact ⟨hp.lo _, fun s h1 h2 => by obtain ⟨i, _, _, _, e⟩ := hp.full _ s h1 h2; omega, he⟩
theorem sow_room {x : List Int} {fs : List Nat} (hn : fs.Nodup) (hm : ∀ i, i ∈ fs ↔ i < x.length ∧ Ind.lms x i = true) (k : Nat) (c : Int) : (sownK x fs k).2 c ≤ Ind.tl x c := by
  have hp := Ind.sow_all (x := x) (fs.drop (fs.length - k)) (hn.sublist (List.drop_sublist _ _)) fun j hj => (hm j).1 (List.mem_of_mem_drop hj)
  have := hp.cnt c
  show (Ind.sowN x (fs.drop (fs.length - k))).2 c ≤ _
  omega
/-- What was put so far, by codes. -/
def putC (x : List Int) (t : Int → Nat) : Int → Nat := fun c => Ind.tl x c - t c
theorem putC_zero (x : List Int) (m : Nat) : ctr m (putC x (Ind.tl x)) = List.replicate m 0 := by
  unfold ctr putC
  refine List.ext_getElem (by simp) fun d h1 h2 => by simp
theorem putC_set (x : List Int) (m : Nat) (t : Int → Nat) (c a b : Nat) (_ : t (c : Int) = a + 1) (h2 : Ind.tl x (c : Int) = b + (a + 1)) : (ctr m (putC x t)).set c ((b + 1 : Nat) : Int) = ctr m (putC x (Ind.upd t (c : Int) a)) := by
  rw [ctr_set]
  congr 1
  funext d
  show (if d = (c : Int) then b + 1 else Ind.tl x d - t d) = Ind.tl x d - (if d = (c : Int) then a else t d)
  by_cases e : d = (c : Int)
  · rw [if_pos e, if_pos e, e, h2]; omega
  · rw [if_neg e, if_neg e]
theorem fill_step (n k : Nat) (h : k < n) : List.replicate (k + 1) (-1 : Int) ++ List.replicate (n - (k + 1)) 0 = (List.replicate k (-1) ++ List.replicate (n - k) 0).set k (-1) := by
  refine List.ext_getElem (by simp; omega) fun d h1 h2 => ?_
  rw [List.getElem_set]
  simp only [List.getElem_append, List.length_replicate, List.getElem_replicate]
  by_cases e : k = d
  · subst e; simp
  · rw [if_neg e]
    by_cases e2 : d < k
    · simp [e2, show d < k + 1 by omega]
    · simp [e2, show ¬ d < k + 1 by omega]
theorem putC_get (x : List Int) (m : Nat) (t : Int → Nat) (c a b : Nat) (hc : c < m) (h1 : t (c : Int) = a + 1) (h2 : Ind.tl x (c : Int) = b + (a + 1)) : (ctr m (putC x t)).getD c 0 = (b : Int) := by
  rw [ctr_get _ _ _ hc]
  unfold putC
  omega

/-- ref15.Kinds of a right text. -/
structure KdPostR (x : List Int) (w : World) (e : Ending) (w' : World) : Prop where mk ::
  out : ∃ B cb, e = .returned (.slice B x.length cb) ∧ RdT w' B x.length (Ind.knd x) ∧ (∀ ad, B = some ad → ad.block < w'.heap.size) ∧ Up w w'

set_option maxHeartbeats 8000000 in
theorem refInd_calls (b off ca : Nat) (x : List Int) (fb fo fc : Nat) (fs : List Nat) (w : World) (hrd : Rd w .i64 (some ⟨b, off, none⟩) ca x) (h2 : 2 ≤ x.length) (hl : x.length ≤ 65536)
    (m : Nat) (hm : m ≤ 65536) (HR : Hid (∀ y ∈ x, 0 ≤ y ∧ y < (m : Int))) (HT : Hid (Ind.Tx x))
    (hfs : Rd w .i64 (some ⟨fb, fo, none⟩) fc (fs.map fun (i : Nat) => (i : Int))) (hfl : fs.length ≤ 65536) (HN : Hid fs.Nodup) (HF : Hid (∀ i, i ∈ fs ↔ i < x.length ∧ Ind.lms x i = true))
    (HK : ∀ w', Up w w' → Hid (Calls Try.prog 37 #[.slice (some ⟨b, off, none⟩) x.length ca] w' (KdPostR x w')))
    (HG : ∀ w', Up w w' → Hid (Calls Try.prog 43 #[.slice (some ⟨b, off, none⟩) x.length ca] w' fun e w'' => e = .returned (.int .i64 ((m : Int) - 1)) ∧ Up w' w''))
    (HB : ∀ w' (c : Nat), Up w w' → Hid (Calls Try.prog 44 #[.slice (some ⟨b, off, none⟩) x.length ca, .int .i64 c] w' fun e w'' => e = .returned (.tuple #[.int .i64 (Ind.hd x c : Nat), .int .i64 (Ind.tl x c : Nat)]) ∧ ∃ q, w'' = w'.drewN q)) :
    Calls Try.prog 14 #[.slice (some ⟨b, off, none⟩) x.length ca, .slice (some ⟨fb, fo, none⟩) fs.length fc] w fun e w' => ∃ O, e = .returned (.slice (some ⟨O, 0, none⟩) x.length x.length) ∧ w.heap.size ≤ O ∧ Blk w' O 3 (cellsOf .i64 (Ind.ind x fs)) ∧ Up w w' := by
  have hb1 : ((x.length : Int) == 1) = false := by simpa using (show (x.length : Int) ≠ 1 by omega)
  have hx0 : 0 < x.length := by omega
  have hm1 : (m : Int) - 1 + 1 = (m : Int) := by omega
  have HSI := Lib.hid (sow_in HN.out HF.out)
  have HSR := Lib.hid (sow_room HN.out HF.out)
  have HSD := Lib.hid (Ind.sow_seeds HN.out HF.out)
  generalize hA : (some ⟨b, off, none⟩ : Option Addr) = A at *
  generalize hAf : (some ⟨fb, fo, none⟩ : Option Addr) = Af at *
  go_enter Try.func14, Try.ntmps14
  go_wp2_with fail
  refine (HK w (Up.refl w)).out.mono ?_
  rintro en w1 ⟨B, cb, rfl, hkd, hB, hu1⟩
  clear HK
  go_wp2_with (refine wpl_makeK 3 .i64 8 Try.underlying22 infoInt9 x.length rfl rfl (by omega) (by omega) ?_; intro wn hbO hun hsn)
  have hOlo := hu1.size
  have hO1 : w1.heap.size ≤ w1.heap.size := Nat.le_refl _
  generalize hOe : w1.heap.size = O at hbO hsn hO1
  rw [hOe] at hOlo
  try rw [hOe]
  -- -1 everywhere
  go_loopw [7] (fun i wr => ∃ k : Nat, k ≤ x.length ∧ i = .int .i64 k ∧ Blk wr O 3 (cellsOf .i64 (List.replicate k (-1) ++ List.replicate (x.length - k) 0)) ∧ Up w1 wr) (fun i _ => x.length - (intOf i).toNat)
  case atStart => exact ⟨0, Nat.zero_le _, rfl, by simpa using hbO, hun⟩
  case round =>
    clear hbO hun
    obtain ⟨k, hk, rfl, hbO, hU⟩ := hrel
    by_cases hlt : k < x.length
    · have hfO := hbO.frozen k
      have hgO := (hbO.cell k).trans (cellsOf_get _ _ k (by simp; omega))
      generalize (List.replicate k (-1) ++ List.replicate (x.length - k) (0 : Int)).getD k 0 = old at hgO
      have HS := Lib.hid (fill_step x.length k hlt)
      have HBO := Lib.hid hbO
      clear hbO
      go_wp2_with fail
      refine ⟨⟨k + 1, by omega, by simp, by rw [HS.out, ← cellsOf_set]; exact HBO.out.set k _, hU.setCell (by show w1.heap.size ≤ O; omega) _⟩, ?_⟩
      simp [intOf]; omega
    · have hke : k = x.length := by omega
      subst hke
      rw [Nat.sub_self, List.replicate_zero, List.append_nil] at hbO
      have hO2 : w1.heap.size ≤ O := by omega
      clear hOe hsn
      have HUW := Lib.hid (hu1.trans hU)
      have HG1 := HG wr HUW.out
      go_wp2_with fail
      refine (HG1.out).mono ?_
      rintro en w2 ⟨rfl, hq2⟩
      clear HG1
      have hU2 := hU.trans hq2
      have hbO2 := hbO.up hq2
      clear hq2
      clear hbO hU
      go_wp2_with (refine wpl_makeK 3 .i64 8 Try.underlying22 infoInt9 m rfl rfl (by omega) (by omega) ?_; intro wn2 hbP hun2 hsn2)
      have hPO : O < w2.heap.size := hbO2.lt
      have hbO3 := hbO2.up hun2
      have hU3 := hU2.trans hun2
      have hP2 := hU2.size
      generalize hPe : w2.heap.size = P at hbP hsn2 hPO hP2
      try rw [hPe]
      clear hbO2 hU2 hun2 hsn2 hPe HUW
      -- sown
      go_loopw [9, 10, 11, 12] (fun i _ _ _ wr => ∃ q : Nat, q ≤ fs.length ∧ i = .int .i64 ((q : Int) - 1) ∧ Blk wr O 3 (cellsOf .i64 (sownK x fs (fs.length - q)).1) ∧ Blk wr P 3 (cellsOf .i64 (ctr m (putC x (sownK x fs (fs.length - q)).2))) ∧ Up w1 wr) (fun i _ _ _ _ => (intOf i + 1).toNat)
      case atStart => exact ⟨fs.length, Nat.le_refl _, by simp, by rw [Nat.sub_self, sownK_zero]; exact hbO3, by rw [Nat.sub_self, sownK_zero, putC_zero]; exact hbP, hU3⟩
      case round =>
        clear hbO3 hbP hU3
        obtain ⟨q, hq, rfl, hbO, hbP, hU⟩ := hrel
        cases q with
        | zero =>
          rw [Nat.sub_zero, sownK_all] at hbO
          clear hbP hq HSR HSI hP2
          have HI := Lib.hid (Ind.lg_in HT.out HSD.out)
          have HRM := Lib.hid (lg_room HT.out HSD.out)
          have HLE := Lib.hid (Ind.lg_end HT.out HSD.out)
          have HLA := Lib.hid (Ind.clr_laid HT.out h2 HSD.out (Ind.lg_all HT.out HSD.out x.length (Nat.le_refl _)))
          have HSM := Lib.hid (Ind.sm_in HT.out HLA.out)
          have HSH := Lib.hid (fun r (hr : r < x.length) c => (Ind.sm_all HT.out HLA.out (x.length - (r + 1)) (by omega)).hi c)
          have HIND := Lib.hid (show Ind.ind x fs = (Ind.smN x (Ind.clr x (Ind.lgN x (Ind.sowN x fs).1 x.length).1) x.length).1 from rfl)
          clear HLA
          generalize (Ind.sowN x fs).1 = so at *
          have e0 : ((0 : Nat) : Int) - 1 = -1 := rfl
          rw [e0]
          clear e0
          go_wp2_with fail
          -- the larger ones
          go_loopw [13, 14, 15, 16] (fun i _ _ _ wr => ∃ k : Nat, k ≤ x.length ∧ i = .int .i64 k ∧ Blk wr O 3 (cellsOf .i64 (Ind.lgN x so k).1) ∧ Up w1 wr) (fun i _ _ _ _ => x.length - (intOf i).toNat)
          case atStart => exact ⟨0, by omega, rfl, hbO, hU⟩
          case round =>
            clear hbO hU
            obtain ⟨k, hk, rfl, hbO, hU⟩ := hrel
            by_cases hlt : k < x.length
            · obtain ⟨hlen, hv1, hv2, hv3⟩ := HI.out k hlt
              have hrm := HRM.out k hlt
              have HLS := Lib.hid (show Ind.lgN x so (k + 1) = Ind.lgS x (Ind.lgN x so k) k from rfl)
              generalize Ind.lgN x so k = st at *
              obtain ⟨p, t⟩ := st
              simp only at hlen hv1 hv2 hv3 hbO hrm
              have hg := (hbO.cell k).trans (cellsOf_get _ _ k (by omega))
              rw [getD_def p k 0 (-1) (by omega)] at hg
              have HLS2 := HLS.out
              unfold Ind.lgS at HLS2
              simp only at HLS2
              generalize p.getD k (-1) = v at *
              clear HLS
              have HLS := Lib.hid HLS2
              clear HLS2
              have HbO := Lib.hid hbO
              have HU := Lib.hid hU
              by_cases hv : v - 1 < 0
              · have HE := Lib.hid (HLS.out.trans (if_pos hv))
                clear HLS hv3 hrm hbO hU
                go_wp2_with fail
                refine ⟨⟨k + 1, by omega, by simp, by rw [HE.out]; exact HbO.out, HU.out⟩, ?_⟩
                simp [intOf]; omega
              · have hv0 : 0 ≤ v - 1 := by omega
                obtain ⟨n, hn⟩ := Int.eq_ofNat_of_zero_le hv0
                have hvn : v = (n : Int) + 1 := by omega
                subst hvn
                clear hn hv1
                have hnl : n < x.length := by omega
                have hne1 : ((n : Int) + 1 - 1).toNat = n := by omega
                have hne2 : (n : Int) + 1 - 1 = (n : Int) := by omega
                rw [hne1] at hv3 hrm
                have HLS2 := HLS.out
                rw [if_neg hv, hne1, hne2] at HLS2
                clear HLS hne1 hv hv0 hv2
                rw [hne2] at hv3 hrm
                obtain ⟨adB, eB, hcB0⟩ := hkd.at_ n hnl
                have hcB := hU.cell hcB0
                clear hcB0
                subst eB
                cases hkn : Ind.knd x n with
                | true =>
                  rw [if_pos hkn] at HLS2
                  have HE := Lib.hid HLS2
                  rw [hkn] at hcB
                  clear HLS2 hv3 hrm hbO hU
                  go_wp2_with fail
                  refine ⟨⟨k + 1, by omega, by simp, by rw [HE.out]; exact HbO.out, HU.out⟩, ?_⟩
                  simp [intOf]; omega
                | false =>
                  rw [if_neg (by rw [hkn]; simp)] at HLS2
                  rw [hkn] at hcB
                  have hh := hv3 (by omega) hkn
                  obtain ⟨hrl, hrf, hre⟩ := hrm (by omega) hkn
                  clear hv3 hrm
                  obtain ⟨ad, y, rfl, hc, HX, _⟩ := (hrd.up (hu1.trans hU)).get n hnl
                  have hmem : y ∈ x := by
                    rw [← HX.out, List.getD_eq_getElem?_getD, List.getElem?_eq_getElem hnl]; exact List.getElem_mem hnl
                  obtain ⟨hy0, hy1⟩ := HR.out y hmem
                  clear hmem
                  obtain ⟨c, rfl⟩ := Int.eq_ofNat_of_zero_le hy0
                  have hcm : c < m := by omega
                  rw [HX.out] at hh HLS2 hrl hrf hre
                  have HBk := Lib.hid (HB wr c (hu1.trans hU)).out
                  have HE := Lib.hid HLS2
                  have HRF := Lib.hid hrf
                  clear HLS2 hy0 hy1 hrf hbO hU
                  generalize Ind.hd x (c : Int) = hdv at *
                  generalize Ind.tl x (c : Int) = tlv at *
                  generalize ht : t (c : Int) = tc at *
                  go_wp2_with fail
                  refine (HBk.out).mono ?_
                  rintro en w3 ⟨rfl, q3, rfl⟩
                  have hb3 := HbO.out.drewN q3
                  have hu3 := HU.out.drewN q3
                  generalize wr.drewN q3 = w3 at *
                  clear HbO HU HBk hc hcB hg
                  go_wp2_with fail
                  go_loopw [15] (fun a wr => ∃ s : Nat, hdv ≤ s ∧ s ≤ tc ∧ a = .int .i64 s ∧ wr = w3) (fun a _ => tc - (intOf a).toNat)
                  case atStart => exact ⟨hdv, Nat.le_refl _, hrl, rfl, rfl⟩
                  case round =>
                    obtain ⟨s, hs1, hs2, rfl, rfl⟩ := hrel
                    have hgs := (hb3.cell s).trans (cellsOf_get _ _ s (by omega))
                    rw [getD_def p s 0 (-1) (by omega)] at hgs
                    by_cases hst : s < tc
                    · have hpos := HRF.out s hs1 hst
                      have HB3 := Lib.hid hb3
                      generalize p.getD s (-1) = u at *
                      clear hb3
                      go_wp2_with fail
                      exact ⟨⟨s + 1, by omega, by omega, by simp, trivial⟩, by simp [intOf]; omega⟩
                    · have hse : s = tc := by omega
                      subst hse
                      rw [hre] at hgs
                      have hf3 := hb3.frozen s
                      have HB3 := Lib.hid hb3
                      have HU3 := Lib.hid hu3
                      clear hb3 hu3 hst
                      go_wp2_with fail
                      refine ⟨⟨k + 1, by omega, by simp, ?_, HU3.out.setCell (by show w1.heap.size ≤ O; omega) _⟩, ?_⟩
                      · rw [HE.out, ← cellsOf_set]
                        exact HB3.out.set s _
                      · simp [intOf]; omega
            · have hke : k = x.length := by omega
              subst hke
              clear HI HRM hlt hk
              generalize (Ind.lgN x so x.length).1 = lo at *
              have hlo := HLE.out.1
              have HLO := Lib.hid HLE.out.2
              have HCA := Lib.hid (clrK_all x lo hlo)
              clear HLE
              go_wp2_with fail
              -- cleared
              go_loopw [17] (fun i wr => ∃ k : Nat, k ≤ x.length ∧ i = .int .i64 k ∧ Blk wr O 3 (cellsOf .i64 (clrK x.length (Ind.knd x) lo k)) ∧ Up w1 wr) (fun i _ => x.length - (intOf i).toNat)
              case atStart => exact ⟨0, by omega, rfl, by rw [clrK_zero]; exact hbO, hU⟩
              case round =>
                clear hbO hU
                obtain ⟨k, hk, rfl, hb, hU⟩ := hrel
                by_cases hlt : k < x.length
                · have hg := (hb.cell k).trans (cellsOf_get _ _ k (by rw [clrK_len, hlo]; exact hlt))
                  rw [clrK_get _ _ _ _ (by rw [hlo]; exact hlt)] at hg
                  have hf := hb.frozen k
                  obtain ⟨hv1, hv2⟩ := HLO.out k hlt
                  have HS := Lib.hid (clrK_same x.length (Ind.knd x) lo k (by rw [hlo]; exact hlt))
                  have HT' := Lib.hid (clrK_step x.length (Ind.knd x) lo k (by rw [hlo]; exact hlt))
                  generalize lo.getD k 0 = v at *
                  have HB := Lib.hid hb
                  have HU := Lib.hid hU
                  by_cases hv : v = -1
                  · subst hv
                    have HS' := Lib.hid (HS.out (by simp))
                    clear hb hU hf
                    go_wp2_with fail
                    refine ⟨⟨k + 1, by omega, by simp, by rw [HS'.out]; exact HB.out, HU.out⟩, ?_⟩
                    simp [intOf]; omega
                  · have hv0 : 0 ≤ v := by omega
                    obtain ⟨n, rfl⟩ := Int.eq_ofNat_of_zero_le hv0
                    have hn : n < x.length := by omega
                    obtain ⟨adB, eB, hcB0⟩ := hkd.at_ n hn
                    have hcB := hU.cell hcB0
                    subst eB
                    clear hv0 hv1 hv2 hcB0
                    cases hfb : Ind.knd x n with
                    | false =>
                      have HS' := Lib.hid (HS.out (by simp [hfb]))
                      rw [hfb] at hcB
                      clear hb hU hf
                      go_wp2_with fail
                      refine ⟨⟨k + 1, by omega, by simp, by rw [HS'.out]; exact HB.out, HU.out⟩, ?_⟩
                      simp [intOf]; omega
                    | true =>
                      rw [hfb] at hcB
                      by_cases hl1 : (n : Int) = (x.length : Int) - 1
                      · have HS' := Lib.hid (HS.out (by omega))
                        have hb2 : ((n : Int) != (x.length : Int) - 1) = false := by simpa using hl1
                        clear hb hU hf hl1
                        go_wp2_with fail
                        refine ⟨⟨k + 1, by omega, by simp, by rw [HS'.out]; exact HB.out, HU.out⟩, ?_⟩
                        simp [intOf]; omega
                      · have hb1 : ((n : Int) == (x.length : Int) - 1) = false := by simpa using hl1
                        have hb2 : ((n : Int) != (x.length : Int) - 1) = true := by simpa using hl1
                        have HT' := Lib.hid (HT'.out.trans (by rw [if_pos ⟨hv, by omega, by simpa using hfb⟩]))
                        clear hb hU
                        go_wp2_with fail
                        refine ⟨⟨k + 1, by omega, by simp, by rw [HT'.out, ← cellsOf_set]; exact HB.out.set k _, HU.out.setCell (by show w1.heap.size ≤ O; omega) _⟩, ?_⟩
                        simp [intOf]; omega
                · have hke : k = x.length := by omega
                  subst hke
                  rw [HCA.out] at hb
                  clear HCA HLO hlo hlt hk
                  generalize Ind.clr x lo = co at *
                  have HUW := Lib.hid (hu1.trans hU)
                  have HG1 := HG wr HUW.out
                  go_wp2_with fail
                  refine (HG1.out).mono ?_
                  rintro en w5 ⟨rfl, hq5⟩
                  clear HG1
                  have hU5 := hU.trans hq5
                  have hbO5 := hb.up hq5
                  clear hq5
                  clear hb hU
                  go_wp2_with (refine wpl_makeK 3 .i64 8 Try.underlying22 infoInt9 m rfl rfl (by omega) (by omega) ?_; intro wn5 hbP hun5 hsn5)
                  have hPO5 : O < w5.heap.size := hbO5.lt
                  have hbO6 := hbO5.up hun5
                  have hU6 := hU5.trans hun5
                  have hP5 := hU5.size
                  clear hPO
                  generalize hPe : w5.heap.size = P at hbP hsn5 hPO5 hP5
                  try rw [hPe]
                  clear hbO5 hU5 hun5 hsn5 hPe HUW HG
                  -- the smaller ones
                  go_loopw [18, 19, 20, 21] (fun i _ _ _ wr => ∃ q : Nat, q ≤ x.length ∧ i = .int .i64 ((q : Int) - 1) ∧ Blk wr O 3 (cellsOf .i64 (Ind.smN x co (x.length - q)).1) ∧ Blk wr P 3 (cellsOf .i64 (ctr m (putC x (Ind.smN x co (x.length - q)).2))) ∧ Up w1 wr) (fun i _ _ _ _ => (intOf i + 1).toNat)
                  case atStart => exact ⟨x.length, Nat.le_refl _, by simp, by rw [Nat.sub_self]; exact hbO6, by rw [Nat.sub_self]; show Blk _ _ _ (cellsOf .i64 (ctr m (putC x (Ind.tl x)))); rw [putC_zero]; exact hbP, hU6⟩
                  case round =>
                    clear hbO6 hbP hU6
                    obtain ⟨q, hk, rfl, hbO, hbP, hU⟩ := hrel
                    cases q with
                    | zero =>
                      rw [Nat.sub_zero, ← HIND.out] at hbO
                      have e0 : ((0 : Nat) : Int) - 1 = -1 := rfl
                      rw [e0]
                      have HBO := Lib.hid hbO
                      have HU := Lib.hid (hu1.trans hU)
                      clear e0 hbO hbP hU
                      go_wp2_with fail
                      go_ret
                      exact ⟨O, rfl, hOlo, HBO.out, HU.out⟩
                    | succ k =>
                      have hlt : k < x.length := by omega
                      have hkk : ((k + 1 : Nat) : Int) - 1 = (k : Int) := by omega
                      rw [hkk]
                      clear hkk hk
                      obtain ⟨hlen, hv1, hv2, hv3⟩ := HSM.out k hlt
                      have hsh := HSH.out k hlt
                      have HLS := Lib.hid (smN_step x co k hlt)
                      generalize Ind.smN x co (x.length - (k + 1)) = st at *
                      obtain ⟨p, t⟩ := st
                      simp only at hlen hv1 hv2 hv3 hbO hbP hsh
                      have hg := (hbO.cell k).trans (cellsOf_get _ _ k (by omega))
                      rw [getD_def p k 0 (-1) (by omega)] at hg
                      have HLS2 := HLS.out
                      unfold Ind.smS at HLS2
                      simp only at HLS2
                      generalize p.getD k (-1) = v at *
                      clear HLS
                      have HLS := Lib.hid HLS2
                      clear HLS2
                      have HbO := Lib.hid hbO
                      have HbP := Lib.hid hbP
                      have HUr := Lib.hid hU
                      by_cases hv : v - 1 < 0
                      · have HE := Lib.hid (HLS.out.trans (if_pos hv))
                        clear HLS hv3 hbO hbP hU
                        go_wp2_with fail
                        refine ⟨⟨k, by omega, by simp, by rw [HE.out]; exact HbO.out, by rw [HE.out]; exact HbP.out, HUr.out⟩, ?_⟩
                        simp [intOf]
                      · have hv0 : 0 ≤ v - 1 := by omega
                        obtain ⟨n, hn⟩ := Int.eq_ofNat_of_zero_le hv0
                        have hvn : v = (n : Int) + 1 := by omega
                        subst hvn
                        clear hn hv1
                        have hnl : n < x.length := by omega
                        have hne1 : ((n : Int) + 1 - 1).toNat = n := by omega
                        have hne2 : (n : Int) + 1 - 1 = (n : Int) := by omega
                        rw [hne1] at hv3
                        have HLS2 := HLS.out
                        rw [if_neg hv, hne1, hne2] at HLS2
                        clear HLS hne1 hv hv0 hv2
                        rw [hne2] at hv3
                        obtain ⟨adB, eB, hcB0⟩ := hkd.at_ n hnl
                        have hcB := hU.cell hcB0
                        clear hcB0
                        subst eB
                        cases hkn : Ind.knd x n with
                        | false =>
                          rw [if_neg (by rw [hkn]; simp)] at HLS2
                          have HE := Lib.hid HLS2
                          rw [hkn] at hcB
                          clear HLS2 hv3 hbO hbP hU
                          go_wp2_with fail
                          refine ⟨⟨k, by omega, by simp, by rw [HE.out]; exact HbO.out, by rw [HE.out]; exact HbP.out, HUr.out⟩, ?_⟩
                          simp [intOf]
                        | true =>
                          rw [if_pos hkn] at HLS2
                          rw [hkn] at hcB
                          obtain ⟨hh1, hh⟩ := hv3 (by omega) hkn
                          clear hv3
                          obtain ⟨ad, y, eA, hc, HX, _⟩ := (hrd.up (hu1.trans hU)).get n hnl
                          have hmem : y ∈ x := by
                            rw [← HX.out, List.getD_eq_getElem?_getD, List.getElem?_eq_getElem hnl]; exact List.getElem_mem hnl
                          obtain ⟨hy0, hy1⟩ := HR.out y hmem
                          clear hmem
                          obtain ⟨c, rfl⟩ := Int.eq_ofNat_of_zero_le hy0
                          have hcm : c < m := by omega
                          rw [HX.out] at hh hh1 HLS2
                          have hr1 := hsh (c : Int)
                          have hr2 := Ind.tl_le (x := x) (c : Int)
                          have hBk := HB wr c (hu1.trans hU)
                          clear hsh
                          obtain ⟨a, ha⟩ : ∃ a, t (c : Int) = a + 1 := ⟨t (c : Int) - 1, by omega⟩
                          obtain ⟨v, hv⟩ : ∃ v, Ind.tl x (c : Int) = v + (a + 1) := ⟨Ind.tl x (c : Int) - (a + 1), by omega⟩
                          rw [ha] at hh HLS2
                          rw [Nat.add_sub_cancel] at HLS2
                          have HE := Lib.hid HLS2
                          have hgP := (hbP.cell c).trans (cellsOf_get _ _ c (by rw [ctr_len]; exact hcm))
                          rw [putC_get x m t c a v hcm ha hv] at hgP
                          have hfP := hbP.frozen c
                          have HPS := Lib.hid (putC_set x m t c a v ha hv)
                          have hvb : v ≤ 65536 := by omega
                          rw [hv] at hBk
                          have HBk : Hid (Calls Try.prog 44 #[.slice A x.length ca, .int .i64 c] wr fun e w'' => e = .returned (.tuple #[.int .i64 (Ind.hd x c : Nat), .int .i64 (v + (a + 1) : Nat)]) ∧ ∃ q, w'' = wr.drewN q) := hBk
                          clear HLS2 hh1 hy0 hy1 hr1 hr2 hBk hbO hbP hU
                          generalize Ind.hd x (c : Int) = hdv at *
                          subst eA
                          have htv : (((v + (a + 1) : Nat) : Int)) - ((v : Int) + 1) = (a : Int) := by omega
                          generalize hT : v + (a + 1) = T at *
                          go_wp2_with fail
                          refine (HBk.out).mono ?_
                          rintro en w6 ⟨rfl, q6, rfl⟩
                          have hbP4 := (HbP.out.drewN q6).set c (.int .i64 ((v : Int) + 1))
                          rw [cellsOf_set, show (v : Int) + 1 = ((v + 1 : Nat) : Int) by omega, HPS.out, show ((v + 1 : Nat) : Int) = (v : Int) + 1 by omega] at hbP4
                          have hbO4 := (HbO.out.drewN q6).other ⟨P, c, none⟩ (.int .i64 ((v : Int) + 1)) (show O ≠ P by omega)
                          have hU4 := (HUr.out.drewN q6).setCell (p := ⟨P, c, none⟩) (show w1.heap.size ≤ P by omega) (.int .i64 ((v : Int) + 1))
                          have hc6 : (wr.drewN q6).cell? (ad.add n) = some (.int .i64 (c : Int)) := hc
                          have hc4 : ((wr.drewN q6).setCell ⟨P, c, none⟩ (.int .i64 ((v : Int) + 1))).cell? (ad.add n) = some (.int .i64 (c : Int)) := (UpX.one (wr.drewN q6) P c _).cell hc6 (fun e => by
                            have h3 := World.block_lt_of_cell? w (ad.add n) (hrd.cell ad rfl n hnl)
                            have h4 := hu1.size
                            omega)
                          have hgP6 : (wr.drewN q6).cell? ⟨P, c, none⟩ = some (.int .i64 (v : Int)) := hgP
                          have hfP6 : (wr.drewN q6).frozen? ⟨P, c, none⟩ = false := hfP
                          have hgP4 : ((wr.drewN q6).setCell ⟨P, c, none⟩ (.int .i64 ((v : Int) + 1))).cell? ⟨P, c, none⟩ = some (.int .i64 ((v : Int) + 1)) := World.cell?_setCell_same' _ _ _ (by rw [hgP6]; rfl)
                          have hgO4 := (hbO4.cell a).trans (cellsOf_get _ _ a (by omega))
                          have hfO4 := hbO4.frozen a
                          generalize p.getD a 0 = old at hgO4
                          have HbO4 := Lib.hid hbO4
                          have HbP4 := Lib.hid hbP4
                          have HU4 := Lib.hid hU4
                          clear hbO4 hbP4 hU4 hgP hfP hc HbO HbP HUr hcB hg HBk
                          go_wp2_with fail
                          refine ⟨⟨k, by omega, by simp, ?_, ?_, HU4.out.setCell (by show w1.heap.size ≤ O; omega) _⟩, ?_⟩
                          · rw [HE.out, ← cellsOf_set]
                            exact HbO4.out.set a _
                          · rw [HE.out]
                            exact HbP4.out.other ⟨O, a, none⟩ _ (show P ≠ O by omega)
                          · simp [intOf]
        | succ j =>
          have hkk : ((j + 1 : Nat) : Int) - 1 = (j : Int) := by omega
          rw [hkk]
          clear hkk
          have hj : j < fs.length := by omega
          obtain ⟨i, hi⟩ : ∃ i, fs.getD j 0 = i := ⟨_, rfl⟩
          obtain ⟨adf, eAf, hcf⟩ := hfs.at_ j (by rw [List.length_map]; exact hj)
          rw [show (fs.map fun (i : Nat) => (i : Int)).getD j 0 = (i : Int) by rw [← hi]; simp [List.getD_eq_getElem?_getD, hj]] at hcf
          have hcf' := hu1.cell hcf
          have hcf2 := hU.cell hcf'
          obtain ⟨hin, hlen, hh1, hh⟩ := HSI.out (fs.length - (j + 1)) i (by omega) (by rw [show fs.length - 1 - (fs.length - (j + 1)) = j by omega]; exact hi)
          have hr1 := HSR.out (fs.length - (j + 1)) (x.getD i 0)
          have hr2 := Ind.tl_le (x := x) (x.getD i 0)
          have HST := Lib.hid (sownK_step x fs (fs.length - (j + 1)) i (by omega) (by rw [show fs.length - 1 - (fs.length - (j + 1)) = j by omega]; exact hi))
          rw [show fs.length - (j + 1) + 1 = fs.length - j by omega] at HST
          obtain ⟨ad, y, eA, hc, HX, _⟩ := (hrd.up (hu1.trans hU)).get i hin
          have hmem : y ∈ x := by
            rw [← HX.out, List.getD_eq_getElem?_getD, List.getElem?_eq_getElem hin]; exact List.getElem_mem hin
          obtain ⟨hy0, hy1⟩ := HR.out y hmem
          clear hmem hcf hcf'
          obtain ⟨c, rfl⟩ := Int.eq_ofNat_of_zero_le hy0
          have hcm : c < m := by omega
          generalize sownK x fs (fs.length - (j + 1)) = st at *
          obtain ⟨p, t⟩ := st
          simp only at hlen hh1 hh hbO hbP hr1
          have HLS := HST.out
          unfold Ind.sowS at HLS
          simp only at HLS
          rw [HX.out] at hh hh1 HLS hr1 hr2
          clear HST hi
          obtain ⟨a, ha⟩ : ∃ a, t (c : Int) = a + 1 := ⟨t (c : Int) - 1, by omega⟩
          obtain ⟨v, hv⟩ : ∃ v, Ind.tl x (c : Int) = v + (a + 1) := ⟨Ind.tl x (c : Int) - (a + 1), by omega⟩
          have hBk := HB wr c (hu1.trans hU)
          rw [ha] at hh HLS
          rw [Nat.add_sub_cancel] at HLS
          have HE := Lib.hid HLS
          have hgP := (hbP.cell c).trans (cellsOf_get _ _ c (by rw [ctr_len]; exact hcm))
          rw [putC_get x m t c a v hcm ha hv] at hgP
          have hfP := hbP.frozen c
          have HPS := Lib.hid (putC_set x m t c a v ha hv)
          have hvb : v ≤ 65536 := by omega
          rw [hv] at hBk
          have HbO := Lib.hid hbO
          have HbP := Lib.hid hbP
          have HUr := Lib.hid hU
          have HBk : Hid (Calls Try.prog 44 #[.slice A x.length ca, .int .i64 c] wr fun e w'' => e = .returned (.tuple #[.int .i64 (Ind.hd x c : Nat), .int .i64 (v + (a + 1) : Nat)]) ∧ ∃ q, w'' = wr.drewN q) := hBk
          clear HLS hh1 hy0 hy1 hr1 hr2 hBk hbO hbP hU
          generalize Ind.hd x (c : Int) = hdv at *
          subst eA eAf
          have htv : (((v + (a + 1) : Nat) : Int)) - ((v : Int) + 1) = (a : Int) := by omega
          generalize hT : v + (a + 1) = T at *
          go_wp2_with fail
          refine (HBk.out).mono ?_
          rintro en w3 ⟨rfl, q3, rfl⟩
          go_wp2_with fail
          have hbP4 := (HbP.out.drewN q3).set c (.int .i64 ((v : Int) + 1))
          rw [cellsOf_set, show (v : Int) + 1 = ((v + 1 : Nat) : Int) by omega, HPS.out] at hbP4
          have hbO4 := (HbO.out.drewN q3).other ⟨P, c, none⟩ (.int .i64 ((v : Int) + 1)) (show O ≠ P by omega)
          rw [show (v : Int) + 1 = ((v + 1 : Nat) : Int) by omega] at hbO4
          have hU4 := (HUr.out.drewN q3).setCell (p := ⟨P, c, none⟩) (show w1.heap.size ≤ P by omega) (.int .i64 ((v + 1 : Nat) : Int))
          have he1 : (v : Int) + 1 = ((v + 1 : Nat) : Int) := by omega
          rw [he1] at htv
          have hcf4 : ((wr.drewN q3).setCell ⟨P, c, none⟩ (.int .i64 ((v + 1 : Nat) : Int))).cell? (adf.add j) = some (.int .i64 (i : Int)) := (UpX.one (wr.drewN q3) P c _).cell hcf2 (fun e => by
            have h3 := World.block_lt_of_cell? w (adf.add j) (hfs.cell adf rfl j (by rw [List.length_map]; exact hj))
            omega)
          have hgP4 : ((wr.drewN q3).setCell ⟨P, c, none⟩ (.int .i64 ((v + 1 : Nat) : Int))).cell? ⟨P, c, none⟩ = some (.int .i64 ((v + 1 : Nat) : Int)) := World.cell?_setCell_same' _ _ _ (by rw [show (wr.drewN q3).cell? ⟨P, c, none⟩ = _ from hgP]; rfl)
          rw [he1]
          generalize v + 1 = v1 at *
          generalize (wr.drewN q3).setCell ⟨P, c, none⟩ (.int .i64 (v1 : Int)) = w4 at *
          clear hcf2 hgP hfP HbO HbP HUr he1 hc
          have hgO := (hbO4.cell a).trans (cellsOf_get _ _ a (by omega))
          have hfO := hbO4.frozen a
          generalize p.getD a 0 = old at hgO
          have HbO := Lib.hid hbO4
          have HbP := Lib.hid hbP4
          have HUr := Lib.hid hU4
          clear hbO4 hbP4 hU4
          refine wp_region_tree (Cells [(⟨P, c, none⟩, .int .i64 (v1 : Int)), (adf.add j, .int .i64 (i : Int))]) (.quiet 0 (.quiet 1 (.quiet 2 (.quiet 3 (.quiet 4 (.quiet 5 (.quiet 6 (.quiet 7 (.quiet 8 (.quiet 9 (.quiet 10 (.quiet 11 (.alt 12 (.nil) (.stop)))))))))))))) (by kernel_rfl) (by kernel_rfl) rfl (by kernel_rfl) (by kernel_rfl) (Cells.cons hgP4 (Cells.cons hcf4 (Cells.nil _))) ?_
          simp only [pickT, List.getElem?_cons_succ, List.getElem?_cons_zero, Option.getD_some]
          repeat (refine tree_step rfl (fun K hK => ?_); go_big_quiet_step ((intro _; rfl)); refine wpQuiet_nil (hK _ ?_); clear hK K)
          refine tree_load ⟨P, c, none⟩ (.int .i64 (v1 : Int)) (by kernel_rfl) rfl (by kernel_rfl) (fun w' h => h.head) ?_
          dsimp only [Act.put]
          simp only [List.setIfInBounds_toArray, List.set_cons_zero, List.set_cons_succ]
          repeat (refine tree_step rfl (fun K hK => ?_); go_big_quiet_step ((intro _; rfl)); refine wpQuiet_nil (hK _ ?_); clear hK K)
          refine tree_load (adf.add j) (.int .i64 (i : Int)) (by kernel_rfl) rfl (by kernel_rfl) (fun w' h => h.tail.head) ?_
          dsimp only [Act.put]
          simp only [List.setIfInBounds_toArray, List.set_cons_zero, List.set_cons_succ]
          repeat (refine tree_step rfl (fun K hK => ?_); go_big_quiet_step ((intro _; rfl)); refine wpQuiet_nil (hK _ ?_); clear hK K)
          refine tree_do (fun K hK => ?_)
          go_wp2_with fail
          refine ⟨trivial, ?_⟩
          refine tree_nil ?_
          go_wp2_with fail
          refine ⟨⟨j, by omega, by simp, ?_, ?_, (HUr.out.setCell (by show w1.heap.size ≤ O; omega) _).drew⟩, ?_⟩
          · rw [HE.out]
            have := (HbO.out.set a (.int .i64 (i : Int))).drew
            rw [cellsOf_set] at this
            exact this
          · rw [HE.out]
            exact (HbP.out.other ⟨O, a, none⟩ (.int .i64 (i : Int)) (show P ≠ O by omega)).drew
          · simp [intOf]
end Go.Proofs.Ytmmacpicbonhhaa
