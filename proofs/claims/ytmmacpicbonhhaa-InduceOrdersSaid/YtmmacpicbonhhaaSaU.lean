/- The walks of sais.Unlike, rank and top. -/
import Derived.Test.YtmmacpicbonhhaaIndH
namespace Go.Proofs.Ytmmacpicbonhhaa
open Go.RowKit Go.Shelf
set_option maxRecDepth 100000

theorem keeps_nodup {zs : List Int} (hs : zs.Pairwise (· ≤ ·)) : (∀ j, j < zs.length → Lib.keeps zs.toArray j = true) ↔ zs.Nodup := by
  have hk : ∀ j, j < zs.length → (Lib.keeps zs.toArray j = true ↔ j = 0 ∨ zs.getD j 0 ≠ zs.getD (j - 1) 0) := fun j hj => by
    unfold Lib.keeps
    rw [decide_eq_true_eq, getElem!_pos zs.toArray j (by simpa using hj), getElem!_pos zs.toArray (j - 1) (by simp; omega)]
    simp [List.getD_eq_getElem?_getD, hj, show j - 1 < zs.length by omega]
  constructor
  · intro h
    have : zs.Pairwise (· < ·) := by
      rw [List.pairwise_iff_getElem] at hs ⊢
      intro i j hi hj hij
      have h1 := (hk j hj).1 (h j hj)
      have h2 : zs[i] ≤ zs[j - 1]'(by omega) := by
        by_cases e : i = j - 1
        · subst e; exact Int.le_refl _
        · exact hs i (j - 1) hi (by omega) (by omega)
      have h3 := hs (j - 1) j (by omega) hj (by omega)
      rcases h1 with h1 | h1
      · omega
      · simp [List.getD_eq_getElem?_getD, hj, show j - 1 < zs.length by omega] at h1
        omega
    exact this.imp fun h => by omega
  · intro h j hj
    rw [hk j hj]
    by_cases e : j = 0
    · exact .inl e
    · refine .inr fun e2 => ?_
      simp [List.getD_eq_getElem?_getD, hj, show j - 1 < zs.length by omega] at e2
      exact List.pairwise_iff_getElem.1 h (j - 1) j (by omega) hj (by omega) e2.symm
theorem compact_len {zs : List Int} (hs : zs.Pairwise (· ≤ ·)) : (Lib.compact zs).length ≤ zs.length ∧ ((Lib.compact zs).length = zs.length ↔ zs.Nodup) := by
  have h1 : (Lib.compact zs).length = ((List.range zs.length).filter (Lib.keeps zs.toArray)).length := by
    unfold Lib.compact Lib.compactUpTo
    rw [List.length_map]
  rw [h1]
  refine ⟨by have := List.length_filter_le (Lib.keeps zs.toArray) (List.range zs.length); rwa [List.length_range] at this, ?_⟩
  rw [← keeps_nodup hs]
  constructor
  · intro h j hj
    rw [show zs.length = (List.range zs.length).length by simp] at h
    exact List.length_filter_eq_length_iff.1 (by simpa using h) j (List.mem_range.2 hj)
  · intro h
    rw [List.filter_eq_self.2 fun j hj => h j (List.mem_range.1 hj), List.length_range]
theorem sorted_le (zs : List Int) : (sorted zs).Pairwise (· ≤ ·) := by
  have := List.pairwise_mergeSort (le := fun x y : Int => decide (x ≤ y)) (fun a b c h1 h2 => by simp at *; omega) (fun a b => by simp; omega) zs
  exact this.imp fun h => by simpa using h
theorem sorted_nodup (zs : List Int) : (sorted zs).Nodup ↔ zs.Nodup := (List.mergeSort_perm zs _).nodup_iff
theorem compact_sorted (zs : List Int) : (((Lib.compact (sorted zs)).length : Int) == (zs.length : Int)) = decide zs.Nodup := by
  obtain ⟨h1, h2⟩ := compact_len (sorted_le zs)
  rw [sorted_len, sorted_nodup] at h2
  by_cases h : zs.Nodup
  · rw [decide_eq_true h, h2.2 h]; simp
  · rw [decide_eq_false h]
    have h3 : (Lib.compact (sorted zs)).length ≠ zs.length := fun e => h (h2.1 e)
    simpa using (show ((Lib.compact (sorted zs)).length : Int) ≠ (zs.length : Int) by omega)

theorem compact_calls (base : Nat) (v : Value) (zs : List Int) (w : World) (hv : Own w base 3 .i64 v zs) (hz : zs.length ≤ 65536) :
    Calls Try.prog 56 #[v] w fun e w' => (∃ A c, e = .returned (.slice A (Lib.compact zs).length c)) ∧ UpX (fun b => v.ownBlock = some b) w w' := by
  rcases hv.row.2 with ⟨rfl, h0⟩ | ⟨g, cap, cur, rfl, hb, hg, h1, h2, h3, h4⟩
  · have hx : zs = [] := List.eq_nil_of_length_eq_zero h0
    subst hx
    exact (Try.slices_Compact_int_empty none 0 w).mono fun e w' ⟨he, hw⟩ => ⟨⟨none, 0, he⟩, by rw [hw]; exact UpX.refl _ _⟩
  · have hblk : Blk w g 3 cur := ⟨hg⟩
    have hH : Go.Sort.Holds (Value.int .i64) w g 0 zs.toArray := fun j hj => by
      have hj' : j < zs.length := by simpa using hj
      refine ⟨?_, by rw [Nat.zero_add]; exact hblk.frozen j⟩
      have := hv.row.cells (g := g) rfl j (.int .i64 zs[j]) (by simp [List.getElem?_eq_getElem hj'])
      rw [add_lit0] at this
      rw [Nat.zero_add, this, getElem!_pos zs.toArray j hj]
      simp
    refine (Try.slices_Compact_int g 0 cap zs w hH (by omega) h1).mono fun e w' ⟨he, n, hw⟩ => ⟨⟨_, _, he⟩, ?_⟩
    subst hw
    refine ⟨rfl, rfl, rfl, by unfold Go.Sort.putRow Go.Sort.mapBlock Go.Sort.ahead; simp, fun k hk hne => ?_⟩
    unfold Go.Sort.putRow Go.Sort.mapBlock Go.Sort.ahead
    simp only [Array.getElem?_modify]
    rw [if_neg (fun e => hne (by rw [← e]; rfl))]

/-- slices.Sorted(slices.Values(l)). -/
theorem sortedV (A1 : Option Addr) (c1 : Nat) (l : List Int) (w w2 : World) (h1 : Rd w .i64 A1 c1 l) (hl : l.length ≤ 65536) (hw2 : w2 = w.alloc (.cells #[.slice A1 l.length c1] 22)) :
    Calls Try.prog 40 #[.func (.func 61) #[] #[.pointer (some ⟨w.heap.size, 0, none⟩)]] w2 fun e w' => ∃ v, e = .returned v ∧ Own w' w2.heap.size 3 .i64 v (sorted l) ∧ Up w2 w' := by
  have hA1 : ∀ ad, A1 = some ad → 0 < l.length → ad.block < w.heap.size := fun ad e hp => by
    have := World.block_lt_of_cell? w (ad.add 0) (h1.cell ad e 0 hp)
    rwa [add_block] at this
  have hu2 : Up w w2 := by rw [hw2]; exact (Up.refl w).alloc _
  have hc2 : w2.cell? ⟨w.heap.size, 0, none⟩ = some (.slice A1 l.length c1) := by rw [hw2]; exact cell_new1 w _ _
  have hs2 : w2.heap.size = w.heap.size + 1 := by rw [hw2]; simp
  have hr2 := h1.up hu2
  exact sorted_calls 61 #[.pointer (some ⟨w.heap.size, 0, none⟩)] (enters_of Try.func61 (by kernel_rfl) rfl) (w.heap.size + 1) l hl (fun z hz => h1.wf z hz) w2 (by omega)
    (by
      rcases Nat.eq_zero_or_pos l.length with h0 | hp
      · have hl0 : l = [] := List.eq_nil_of_length_eq_zero h0
        subst hl0
        exact emptyF_at Fence.wide 4 trivial rfl w.heap.size (w.heap.size + 1) A1 c1 w2 hc2
      · exact valsF_at Fence.wide 4 trivial rfl (by omega) w.heap.size (w.heap.size + 1) A1 c1 l (by omega) w2 hc2 hr2 (fun ad e => by have := hA1 ad e hp; omega))

set_option maxHeartbeats 2000000 in
theorem unlike_calls (A : Option Addr) (c : Nat) (l : List Int) (w : World) (h1 : Rd w .i64 A c l) (hl : l.length ≤ 65536) :
    Calls Try.prog 29 #[.slice A l.length c] w fun e w' => e = .returned (.bool (decide l.Nodup)) ∧ Up w w' := by
  have HB := Lib.hid (compact_sorted l)
  go_enter Try.func29, Try.ntmps29
  go_wp2_with fail
  refine (vals_calls A l.length c w).mono ?_
  rintro en w2 ⟨rfl, hw2⟩
  have HS := Lib.hid (sortedV A c l w w2 h1 hl hw2)
  have hu2 : Up w w2 := by rw [hw2]; exact (Up.refl w).alloc _
  clear hw2
  go_wp2_with fail
  refine (HS.out).mono ?_
  rintro en w3 ⟨v3, rfl, hv3, hu3⟩
  have HC := Lib.hid (compact_calls _ v3 (sorted l) w3 hv3 (by rw [sorted_len]; exact hl))
  have hlt := hv3.lt
  clear HS hv3
  go_wp2_with fail
  refine (HC.out).mono ?_
  rintro en w4 ⟨⟨B, d, rfl⟩, hx⟩
  have hb := HB.out
  generalize hdn : decide l.Nodup = dn at *
  have HD := Lib.hid hdn
  clear hdn
  generalize (Lib.compact (sorted l)).length = m at *
  clear HC HB
  go_wp2_with fail
  go_ret
  have := hu2.size
  exact ⟨by rw [HD.out]; rfl, (hu2.trans hu3).thenx hx fun i hi e => by have := hlt i e; omega⟩

/-- Of each number, how many are below. -/
def rankL (l : List Int) : List Int := l.map fun v => ((sorted l).countP (fun y => decide (y < v)) : Int)
theorem rankL_len (l : List Int) : (rankL l).length = l.length := by simp [rankL]
theorem rankL_rng (l : List Int) : ∀ z ∈ rankL l, 0 ≤ z ∧ z ≤ (l.length : Int) := fun z hz => by
  obtain ⟨v, _, rfl⟩ := List.mem_map.1 hz
  have := List.countP_le_length (p := fun y => decide (y < v)) (l := sorted l)
  rw [sorted_len] at this
  omega
def rankUp (l : List Int) (k : Nat) : List Int := (rankL l).take k ++ List.replicate (l.length - k) 0
theorem rankUp_step (l : List Int) (k : Nat) (v : Int) (h : k < l.length) (hv : l.getD k 0 = v) : (rankUp l k).set k ((sorted l).countP (fun y => decide (y < v)) : Int) = rankUp l (k + 1) := by
  have hk : (rankL l).getD k 0 = ((sorted l).countP (fun y => decide (y < v)) : Int) := by
    subst hv
    unfold rankL
    simp [List.getD_eq_getElem?_getD, h]
  unfold rankUp
  rw [← hk]
  have hlen := rankL_len l
  refine List.ext_getElem (by simp; omega) fun i h1 h2 => ?_
  rw [List.getElem_set]
  simp only [List.getElem_append, List.length_take, List.getElem_take, List.getElem_replicate, hlen]
  by_cases e : k = i
  · subst e
    rw [if_pos rfl, dif_pos (by omega)]
    simp [List.getD_eq_getElem?_getD, hlen, h]
  · rw [if_neg e]
    by_cases e2 : i < k
    · rw [dif_pos (by omega), dif_pos (by omega)]
    · rw [dif_neg (by omega), dif_neg (by omega)]
theorem rankUp_len (l : List Int) (k : Nat) (h : k ≤ l.length) : (rankUp l k).length = l.length := by
  unfold rankUp
  rw [List.length_append, List.length_take, List.length_replicate, rankL_len]
  omega

set_option maxHeartbeats 4000000 in
theorem rank_calls (A : Option Addr) (c : Nat) (l : List Int) (w : World) (h1 : Rd w .i64 A c l) (hp : 0 < l.length) (hl : l.length ≤ 65536) :
    Calls Try.prog 73 #[.slice A l.length c] w (Ret1 w (rankL l)) := by
  have HR := Lib.hid (rankL_rng l)
  have HLE := Lib.hid (sorted_le l)
  go_enter Try.func73, Try.ntmps73
  go_wp2_with fail
  refine (vals_calls A l.length c w).mono ?_
  rintro en w2 ⟨rfl, hw2⟩
  have HS := Lib.hid (sortedV A c l w w2 h1 hl hw2)
  have hu2 : Up w w2 := by rw [hw2]; exact (Up.refl w).alloc _
  clear hw2
  go_wp2_with fail
  refine (HS.out).mono ?_
  rintro en w3 ⟨v3, rfl, hv3, hu3⟩
  obtain ⟨A3, c3, rfl, hr3⟩ := hv3.rd
  rw [sorted_len] at *
  clear HS hv3
  have hu := hu2.trans hu3
  clear hu2 hu3
  go_wp2_with (refine wpl_makeK 3 .i64 8 Try.underlying22 infoInt9 l.length rfl rfl (by omega) (by omega) ?_; intro wn hbO hun hsn)
  have hOlo := hu.size
  have hO1 : w3.heap.size ≤ w3.heap.size := Nat.le_refl _
  generalize hOe : w3.heap.size = O at hbO hsn hO1
  rw [hOe] at hOlo
  try rw [hOe]
  obtain ⟨b3, o3, rfl⟩ := hr3.plain (by rw [sorted_len]; exact hp)
  have hr3' := hr3.len
  go_loopw [5, 6, 15] (fun _ _ i wr => ∃ k : Nat, k ≤ l.length ∧ i = .int .i64 k ∧ Blk wr O 3 (cellsOf .i64 (rankUp l k)) ∧ Up w3 wr) (fun _ _ i _ => l.length - (intOf i).toNat)
  case atStart => exact ⟨0, Nat.zero_le _, rfl, by simpa [rankUp] using hbO, hun⟩
  case round =>
    clear hbO hun
    obtain ⟨k, hk, rfl, hbO, hU⟩ := hrel
    by_cases hlt : k < l.length
    · have hfO := hbO.frozen k
      have hgO := (hbO.cell k).trans (cellsOf_get _ _ k (by rw [rankUp_len _ _ hk]; exact hlt))
      generalize (rankUp l k).getD k 0 = old at hgO
      obtain ⟨ad, v, rfl, hc, HV, _⟩ := (h1.up (hu.trans hU)).get k hlt
      have HST := Lib.hid (rankUp_step l k v hlt HV.out)
      have hq := (hr3.up hU).cell _ rfl
      have HBS := fun q => Lib.hid (Try.slices_BinarySearch_int b3 o3 l.length c3 (sorted l) v (wr.drewN q) (by rw [sorted_len]; exact Nat.le_refl _) (by omega) (fun j hj => by rw [← add_at]; exact hq j hj) (by rw [List.take_of_length_le (by rw [sorted_len]; exact Nat.le_refl _)]; exact HLE.out))
      rw [List.take_of_length_le (by rw [sorted_len]; exact Nat.le_refl _)] at HBS
      have HBO := Lib.hid hbO
      have hrk : ((sorted l).countP fun y => decide (y < v)) ≤ 65536 := by
        have := List.countP_le_length (p := fun y => decide (y < v)) (l := sorted l)
        rw [sorted_len] at this
        omega
      clear hbO hq
      generalize ((sorted l).countP fun y => decide (y < v)) = rk at *
      generalize (sorted l).contains v = isin at *
      have HB0 := HBS 0
      clear HBS
      go_wp2_with fail
      refine (HB0.out).mono ?_
      rintro en w5 ⟨rfl, q5, rfl⟩
      have hfO5 : (wr.drewN q5).frozen? ⟨O, k, none⟩ = false := hfO
      have hgO5 : (wr.drewN q5).cell? ⟨O, k, none⟩ = some (.int .i64 old) := hgO
      have HU := Lib.hid hU
      clear hc HB0 hU
      go_wp2_with fail
      refine ⟨⟨k + 1, by omega, by simp, ?_, (HU.out.drewN q5).setCell (by show w3.heap.size ≤ O; omega) _⟩, ?_⟩
      · rw [← HST.out, ← cellsOf_set]; exact (HBO.out.drewN q5).set k _
      · simp [intOf]; omega
    · have hke : k = l.length := by omega
      subst hke
      unfold rankUp at hbO
      rw [Nat.sub_self, List.replicate_zero, List.append_nil, List.take_of_length_le (by rw [rankL_len]; exact Nat.le_refl _)] at hbO
      have HBO := Lib.hid hbO
      clear hbO hO1 hOe
      go_wp2_with fail
      go_ret
      exact ⟨_, rfl, Own.of_cells HBO.out hOlo (rankL_len l).symm (by rw [rankL_len]; omega) fun z hz => by have := HR.out z hz; exact InK.of_i64 (by omega) (by omega), hu.trans hU⟩
end Go.Proofs.Ytmmacpicbonhhaa
