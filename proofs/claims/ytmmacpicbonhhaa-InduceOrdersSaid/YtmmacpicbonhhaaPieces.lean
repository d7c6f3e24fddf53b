/- The walk of induce's pieces. -/
import Derived.Test.YtmmacpicbonhhaaMapI
import Derived.Test.YtmmacpicbonhhaaIndW
namespace Go.Proofs.Ytmmacpicbonhhaa
open Go.RowKit
set_option maxRecDepth 100000

/-- Where the k-th piece ends. -/
def pcTo (n : Nat) (fs : List Nat) (k : Nat) : Nat := if k + 1 < fs.length then fs.getD (k + 1) 0 + 1 else n
/-- The k-th piece, as a slice. -/
def pcV (b off n : Nat) (fs : List Nat) (k : Nat) : Value := .slice (some ⟨b, off + fs.getD k 0, none⟩) (pcTo n fs k - fs.getD k 0) (pcTo n fs k - fs.getD k 0)
/-- The first k pieces, by places. -/
def pcM (b off n : Nat) (fs : List Nat) : Nat → Int → Option Value
  | 0 => fun _ => none
  | k + 1 => fun y => if y = (fs.getD k 0 : Int) then some (pcV b off n fs k) else pcM b off n fs k y

set_option maxHeartbeats 4000000 in
theorem indPieces_calls (b off c : Nat) (x : List Int) (w : World) (hrd : Rd w .i64 (some ⟨b, off, none⟩) c x) (hl : x.length ≤ 65536) (fs : List Nat) (HU : Hid (fs.Pairwise (· < ·))) (HX : Hid (∀ i ∈ fs, i < x.length)) (hfl : fs.length ≤ 65536)
    (HF : Hid (Calls Try.prog 38 #[.slice (some ⟨b, off, none⟩) x.length c] w (Ret2 w (fs.map fun (i : Nat) => (i : Int)) 0))) :
    Calls Try.prog 70 #[.slice (some ⟨b, off, none⟩) x.length c] w fun e w' => ∃ m, e = .returned (.map (some m)) ∧ w.heap.size ≤ m ∧ MapI Try.prog 3 w' m fs.length (pcM b off x.length fs fs.length) ∧ Up w w' := by
  have hcl := hrd.le
  have hmm := @run_makeMap Try.prog
  go_enter Try.func70, Try.ntmps70
  go_wp2_with fail
  refine (HF.out).mono ?_
  rintro en w1 ⟨v, rfl, hv, hu1⟩
  clear HF
  obtain ⟨zs, hzs⟩ : ∃ zs, (fs.map fun (i : Nat) => (i : Int)) = zs := ⟨_, rfl⟩
  have hzl : zs.length = fs.length := by rw [← hzs, List.length_map]
  rw [hzs] at hv
  obtain ⟨Av, cv, rfl, hrv⟩ := hv.rd
  rw [hzl] at hv
  have hzg : ∀ k, k < fs.length → ∃ i : Nat, zs.getD k 0 = (i : Int) ∧ fs.getD k 0 = i ∧ i < x.length := fun k hk => by
    refine ⟨fs.getD k 0, ?_, rfl, HX.out (fs.getD k 0) (by rw [List.getD_eq_getElem?_getD, List.getElem?_eq_getElem hk]; exact List.getElem_mem hk)⟩
    rw [← hzs]
    simp [List.getD_eq_getElem?_getD, hk]
  have HAv : Hid (∀ ad, Av = some ad → 0 < zs.length → ad.block < w1.heap.size) := Lib.hid fun ad e hp => by
    have := World.block_lt_of_cell? w1 (ad.add 0) (hrv.cell ad e 0 hp)
    rwa [add_block] at this
  have HZL := Lib.hid hzl
  have HZG := Lib.hid hzg
  clear hv hzs hzg
  rw [hzl]
  clear hzl
  go_wp2_with fail
  have hmp := MapI.made Try.prog 3 w1
  have hum : Up w1 (w1.alloc (.map #[] 0)) := (Up.refl w1).alloc _
  have hrv2 := hrv.up hum
  have hu := hu1.trans hum
  have hmlo := hu1.size
  have hsz : (w1.alloc (.map #[] 0)).heap.size = w1.heap.size + 1 := by simp
  generalize w1.alloc (.map #[] 0) = wm at *
  generalize w1.heap.size = m at *
  clear hum hrv hu1 hmm
  go_loopw [6, 7, 8, 17] (fun _ _ _ i wr => ∃ k : Nat, k ≤ fs.length ∧ i = .int .i64 k ∧ MapI Try.prog 3 wr m k (pcM b off x.length fs k) ∧ UpX (fun c => c = m) wm wr) (fun _ _ _ i _ => fs.length - (intOf i).toNat)
  case atStart => exact ⟨0, Nat.zero_le _, rfl, hmp, UpX.refl _ _⟩
  case round =>
    clear hmp
    obtain ⟨k, hk, rfl, hmp, hx⟩ := hrel
    by_cases hlt : k < fs.length
    · obtain ⟨i, hi, hfi, hix⟩ := HZG.out k hlt
      obtain ⟨ad, eA, hc⟩ := hrv2.at_ k (by rw [HZL.out]; exact hlt)
      cases eA
      rw [hi] at hc
      have hc' := hx.cell hc (fun e => by
        have := HAv.out ad rfl (by rw [HZL.out]; omega)
        rw [add_block] at e
        omega)
      have hiK : InK .i64 (i : Int) := InK.of_i64 (by omega) (by omega)
      have HM := Lib.hid hmp
      have hml : k < maxLen := by simp only [maxLen]; omega
      have HX' := Lib.hid hx
      have HST : ∀ t : Nat, t = pcTo x.length fs k → Hid (pcM b off x.length fs (k + 1) = fun y => if y = (i : Int) then some (.slice (some ⟨b, off + i, none⟩) (t - i) (t - i)) else pcM b off x.length fs k y) := fun t ht => Lib.hid (by
        show (fun y => if y = (fs.getD k 0 : Int) then some (pcV b off x.length fs k) else pcM b off x.length fs k y) = _
        unfold pcV
        rw [hfi, ← ht])
      by_cases hk1 : k + 1 < fs.length
      · obtain ⟨i2, hi2, hfi2, hix2⟩ := HZG.out (k + 1) hk1
        have hc2 := hrv2.cell ad rfl (k + 1) (by rw [HZL.out]; exact hk1)
        rw [hi2] at hc2
        have hc2' := hx.cell hc2 (fun e => by
          have := HAv.out ad rfl (by rw [HZL.out]; omega)
          rw [add_block] at e
          omega)
        rw [show ad.add (k + 1) = ⟨ad.block, ad.off + (k + 1), none⟩ by unfold Addr.add; rw [if_neg (by omega)]] at hc2'
        have hlt2 : i < i2 := by
          have := List.pairwise_iff_getElem.1 HU.out k (k + 1) hlt hk1 (by omega)
          rw [← hfi, ← hfi2]
          simpa [List.getD_eq_getElem?_getD, hlt, hk1] using this
        have HP := HST (i2 + 1) (by unfold pcTo; rw [if_pos hk1, hfi2])
        clear hmp hfi hi HST hi2 hfi2 hx hc hc2
        go_wp2_with (refine wpl_mapPut _ rfl _ _ _ 81 rfl 3 22 Try.underlying3 Try.underlying81 m k _ rfl HM.out hml (i : Int) _ rfl hiK rfl ?_; intro w' hm' hx')
        refine ⟨⟨k + 1, by omega, by simp, by rw [HP.out]; exact hm', HX'.out.trans hx'⟩, ?_⟩
        simp [intOf]; omega
      · have HP := HST x.length (by unfold pcTo; rw [if_neg hk1])
        have hk2 : ¬ ((k : Int) + 1 < (fs.length : Int)) := by omega
        clear hmp hfi hi HST hx hc
        go_wp2_with (refine wpl_mapPut _ rfl _ _ _ 81 rfl 3 22 Try.underlying3 Try.underlying81 m k _ rfl HM.out hml (i : Int) _ rfl hiK rfl ?_; intro w' hm' hx')
        refine ⟨⟨k + 1, by omega, by simp, by rw [HP.out]; exact hm', HX'.out.trans hx'⟩, ?_⟩
        simp [intOf]; omega
    · have hke : k = fs.length := by omega
      subst hke
      go_wp2_with fail
      go_ret
      exact ⟨m, rfl, hmlo, hmp, hu.thenx hx fun i hi e => by omega⟩
end Go.Proofs.Ytmmacpicbonhhaa
