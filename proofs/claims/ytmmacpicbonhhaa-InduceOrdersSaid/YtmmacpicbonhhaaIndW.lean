/- The walk of induce.Induce. -/
import Derived.Test.YtmmacpicbonhhaaSorted
import Derived.Test.YtmmacpicbonhhaaIndd
namespace Go.Proofs.Ytmmacpicbonhhaa
open Go.RowKit Go.Shelf
attribute [local go_sem] Oper.semAt_some
set_option maxRecDepth 100000

/-- The address of a slice that is not empty is a plain one. -/
theorem Rd.plain {w : World} {k : IntKind} {A : Option Addr} {c : Nat} {xs : List Int} (h : Rd w k A c xs) (hp : 0 < xs.length) : ∃ b o, A = some ⟨b, o, none⟩ := by
  obtain ⟨ad, e, hc⟩ := h.at_ 0 hp
  obtain ⟨b, o, s⟩ := ad
  cases s with
  | none => exact ⟨b, o, e⟩
  | some s =>
    rw [show (⟨b, o, some s⟩ : Addr).add 0 = ⟨b, o, some s⟩ from rfl] at hc
    unfold World.cell? at hc
    split at hc
    · simp at hc
    · cases hc
theorem equal_calls (A B : Option Addr) (c d : Nat) (xs ys : List Int) (w : World) (h1 : Rd w .i64 A c xs) (h2 : Rd w .i64 B d ys) :
    Calls Try.prog 39 #[.slice A xs.length c, .slice B ys.length d] w fun e w' => e = .returned (.bool (decide (xs = ys))) ∧ ∃ q, w' = w.drewN q := by
  by_cases hlen : xs.length = ys.length
  · cases hx : xs with
    | nil =>
      have hy : ys = [] := List.eq_nil_of_length_eq_zero (by rw [← hlen, hx]; rfl)
      subst hy
      exact (Try.slices_Equal_int_empty A B c 0 d w (by decide)).mono fun e w' ⟨he, hw⟩ => ⟨by simpa using he, 0, by rw [hw]; rfl⟩
    | cons x xs' =>
      rw [← hx]
      have hp : 0 < xs.length := by rw [hx]; simp
      obtain ⟨ab, ao, e1⟩ := h1.plain hp
      obtain ⟨bb, bo, e2⟩ := h2.plain (by omega)
      have hc1 := h1.cell _ e1
      have hc2 := h2.cell _ e2
      subst e1 e2
      refine (Try.slices_Equal_int ab ao xs.length c bb bo ys.length d xs ys w (Nat.le_refl _) (Nat.le_refl _) h1.len h2.len (fun j hj => by rw [← add_at]; exact hc1 j hj) (fun j hj => by rw [← add_at]; exact hc2 j hj)).mono fun e w' ⟨he, hw⟩ => ⟨?_, hw⟩
      rw [he, List.take_length, List.take_length]
      congr 2
      by_cases h : xs = ys
      · simp [h]
      · simp [h]
  · exact (Try.slices_Equal_int_lens A B xs.length c ys.length d w hlen).mono fun e w' ⟨he, hw⟩ => ⟨by rw [he, decide_eq_false (fun e => hlen (by rw [e]))], 0, by rw [hw]; rfl⟩

/-- A list of numbers and an errno are returned. -/
structure Ret2 (w : World) (l : List Int) (n : Int) (e : Ending) (w' : World) : Prop where mk ::
  out : ∃ v, e = .returned (.tuple #[v, .int .i64 n]) ∧ Own w' w.heap.size 3 .i64 v l ∧ Up w w'
structure Ret1 (w : World) (l : List Int) (e : Ending) (w' : World) : Prop where mk ::
  out : ∃ v, e = .returned v ∧ Own w' w.heap.size 3 .i64 v l ∧ Up w w'

set_option maxHeartbeats 2000000 in
theorem indInduce_bad (A0 A1 : Option Addr) (c0 c1 : Nat) (x l : List Int) (w : World) (n : Int) (hn0 : n ≠ 0) (all : List Int)
    (HF : Hid (Calls Try.prog 38 #[.slice A0 x.length c0] w (Ret2 w all n))) :
    Calls Try.prog 12 #[.slice A0 x.length c0, .slice A1 l.length c1] w (Ret2 w [] n) := by
  have hnb : (n != 0) = true := by simpa using hn0
  go_enter Try.func12, Try.ntmps12
  go_wp2_with fail
  refine (HF.out).mono ?_
  rintro en w1 ⟨v, rfl, _, hu⟩
  go_wp2_with fail
  go_ret2
  exact ⟨_, rfl, Own.nil _ _ _ _, hu⟩

theorem sorted_perm {l all : List Int} (hall : all.Pairwise (· ≤ ·)) : sorted l = all ↔ l.Perm all := by
  constructor
  · intro h
    rw [← h]
    exact (List.mergeSort_perm l _).symm
  · intro h
    refine List.Perm.eq_of_pairwise (le := fun a b => a ≤ b) (fun a b _ _ h1 h2 => by omega) ?_ hall ((List.mergeSort_perm l _).trans h)
    have := List.pairwise_mergeSort (le := fun x y : Int => decide (x ≤ y)) (fun a b c h1 h2 => by simp at *; omega) (fun a b => by simp; omega) l
    exact this.imp fun h => by simpa using h

set_option maxHeartbeats 2000000 in
/-- .. of no number. -/
theorem emptyF_at (F : Fence) (n : Nat) (h8 : F.fn 61) (hro : F.round = none) (Bs n0 : Nat) (A : Option Addr) (cap : Nat) (w : World)
    (hBs : w.cell? ⟨Bs, 0, none⟩ = some (.slice A 0 cap)) :
    SeqAt F n Try.prog 61 #[.pointer (some ⟨Bs, 0, none⟩)] (fun k => #[Value.int .i64 (([] : List Int).getD k 0)]) (fun W W' => Below n0 W W') ([] : List Int).length w := fun l J W0 hW _ hY h0 => by
  have hu0 : Up w W0 := ⟨hW⟩
  have hBs0 := hu0.cell hBs
  clear hY
  refine callsIn_of_wp Try.func61 rfl h8 ?_ hro
  simp only [Try.ntmps61, List.size_toArray, List.length_cons, List.length_nil, Nat.reduceAdd, Nat.reduceSub, Array.replicate_succ, Array.replicate_zero, List.push_toArray, List.append_toArray, List.nil_append, List.cons_append]
  gi_wp2
  gi_loopw [7] (fun i wr => i = .int .i64 0 ∧ J 0 wr)
    (fun i _ => 0)
  case atStart => exact ⟨rfl, h0⟩
  case round =>
    obtain ⟨rfl, hJs⟩ := hrel
    gi_wp2
    go_end0
    exact ⟨⟨_, rfl⟩, hJs⟩

def indRes (l all res : List Int) : List Int := if l.isPerm all then res else []
def indErr (l all : List Int) : Int := if l.isPerm all then 0 else 3
set_option maxHeartbeats 4000000 in
theorem indInduce_ok (A0 A1 : Option Addr) (c0 c1 : Nat) (x l : List Int) (w : World) (h1 : Rd w .i64 A1 c1 l) (hl : l.length ≤ 65536) (all : List Int) (hall : Hid (all.Pairwise (· ≤ ·)))
    (HF : Hid (Calls Try.prog 38 #[.slice A0 x.length c0] w (Ret2 w all 0))) (res : List Int)
    (HD : l.Perm all → ∀ w', Up w w' → Hid (Calls Try.prog 42 #[.slice A0 x.length c0, .slice A1 l.length c1] w' (Ret1 w' res))) :
    Calls Try.prog 12 #[.slice A0 x.length c0, .slice A1 l.length c1] w (Ret2 w (indRes l all res) (indErr l all)) := by
  have hA1 : ∀ ad, A1 = some ad → 0 < l.length → ad.block < w.heap.size := fun ad e hp => by
    have := World.block_lt_of_cell? w (ad.add 0) (h1.cell ad e 0 hp)
    rwa [add_block] at this
  go_enter Try.func12, Try.ntmps12
  go_wp2_with fail
  refine (HF.out).mono ?_
  rintro en w1 ⟨v, rfl, hv, hu1⟩
  clear HF
  obtain ⟨Av, cv, rfl, hrv⟩ := hv.rd
  clear hv
  go_wp2_with fail
  refine (vals_calls A1 l.length c1 w1).mono ?_
  rintro en w2 ⟨rfl, hw2⟩
  have hu2 : Up w1 w2 := by rw [hw2]; exact (Up.refl w1).alloc _
  have hc2 : w2.cell? ⟨w1.heap.size, 0, none⟩ = some (.slice A1 l.length c1) := by rw [hw2]; exact cell_new1 w1 _ _
  have hs2 : w2.heap.size = w1.heap.size + 1 := by rw [hw2]; simp
  clear hw2
  have hr2 := h1.up (hu1.trans hu2)
  have hz1 := hu1.size
  have HS := Lib.hid (sorted_calls 61 #[.pointer (some ⟨w1.heap.size, 0, none⟩)] (enters_of Try.func61 (by kernel_rfl) rfl) (w1.heap.size + 1) l hl (fun z hz => h1.wf z hz) w2 (by omega)
    (by
      rcases Nat.eq_zero_or_pos l.length with h0 | hp
      · have hl0 : l = [] := List.eq_nil_of_length_eq_zero h0
        subst hl0
        exact emptyF_at Fence.wide 4 trivial rfl w1.heap.size (w1.heap.size + 1) A1 c1 w2 hc2
      · exact valsF_at Fence.wide 4 trivial rfl (by omega) w1.heap.size (w1.heap.size + 1) A1 c1 l (by omega) w2 hc2 hr2 (fun ad e => by have := hA1 ad e hp; omega)))
  clear hc2 hr2
  go_wp2_with fail
  refine (HS.out).mono ?_
  rintro en w3 ⟨v3, rfl, hv3, hu3⟩
  clear HS
  obtain ⟨A3, c3, rfl, hr3⟩ := hv3.rd
  rw [sorted_len] at *
  have HE := Lib.hid (equal_calls A3 Av c3 cv (sorted l) all w3 hr3 (hrv.up (hu2.trans hu3)))
  rw [sorted_len] at HE
  have hu := (hu1.trans hu2).trans hu3
  clear hr3 hv3 hrv hu1 hu2 hu3
  have HD2 : l.Perm all → Hid (∀ q, Calls Try.prog 42 #[.slice A0 x.length c0, .slice A1 l.length c1] (w3.drewN q) (Ret1 (w3.drewN q) res)) := fun hp => Lib.hid fun q => (HD hp _ (hu.drewN q)).out
  clear HD
  go_wp2_with fail
  refine (HE.out).mono ?_
  rintro en w4 ⟨rfl, q, rfl⟩
  clear HE
  have huq := hu.drewN q
  by_cases hp : l.Perm all
  · rw [decide_eq_true ((sorted_perm hall.out).2 hp)]
    have HI := HD2 hp
    have HPR := Lib.hid (show indRes l all res = res from if_pos (List.isPerm_iff.2 hp))
    have HPE := Lib.hid (show indErr l all = 0 from if_pos (List.isPerm_iff.2 hp))
    clear HD2 hp
    go_wp2_with fail
    refine (HI.out q).mono ?_
    rintro en w5 ⟨v5, rfl, hv5, hu5⟩
    go_wp2_with fail
    go_ret2
    exact ⟨_, by rw [HPE.out]; rfl, by rw [HPR.out]; exact hv5.mono huq.size, huq.trans hu5⟩
  · rw [decide_eq_false (fun e => hp ((sorted_perm hall.out).1 e))]
    have HPR := Lib.hid (show indRes l all res = [] from if_neg fun h => hp (List.isPerm_iff.1 h))
    have HPE := Lib.hid (show indErr l all = 3 from if_neg fun h => hp (List.isPerm_iff.1 h))
    clear HD2 hp
    go_wp2_with fail
    go_ret2
    exact ⟨_, by rw [HPE.out]; rfl, by rw [HPR.out]; exact Own.nil _ _ _ _, huq⟩
end Go.Proofs.Ytmmacpicbonhhaa
