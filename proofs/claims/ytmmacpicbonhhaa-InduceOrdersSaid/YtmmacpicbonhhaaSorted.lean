/- slices.Sorted(slices.Values(l)): the whole. -/
import Derived.Test.YtmmacpicbonhhaaSeqVal
import Derived.Test.YtmmacpicbonhhaaShelf
namespace Go.Proofs.Ytmmacpicbonhhaa
open Go.RowKit
set_option maxRecDepth 100000

theorem collect_calls (g : Nat) (lb : Array Value) (eg : ∀ args w, (callFunc g args).run Try.prog w = .ok (.enter g args) w) (n0 : Nat) (zs : List Int) (hz : zs.length ≤ 65536) (hwf : ∀ z ∈ zs, InK .i64 z) (w : World) (hn0 : n0 ≤ w.heap.size)
    (hseq : SeqAt Fence.wide 4 Try.prog g lb (fun k => #[Value.int .i64 (zs.getD k 0)]) (fun W W' => Below n0 W W') zs.length w) :
    Calls Try.prog 59 #[.func (.func g) #[] lb] w fun e w' => ∃ v, e = .returned v ∧ Own w' w.heap.size 3 .i64 v zs ∧ Up w w' := by
  have HC := Lib.hid (appSeq_calls g lb eg n0 zs hz hwf w hn0 hseq)
  clear hseq hwf hn0
  go_enter Try.func59, Try.ntmps59
  go_wp2_with fail
  refine (HC.out).mono ?_
  rintro e w' ⟨v, rfl, hv, hu⟩
  go_wp2_with fail
  go_ret
  exact ⟨v, rfl, hv, hu⟩

/-- The numbers, not falling. -/
def sorted (zs : List Int) : List Int := zs.mergeSort fun x y => decide (x ≤ y)
theorem sorted_len (zs : List Int) : (sorted zs).length = zs.length := List.length_mergeSort zs
theorem sorted_mem (zs : List Int) (z : Int) : z ∈ sorted zs ↔ z ∈ zs := List.mem_mergeSort

theorem sort_calls (base : Nat) (v : Value) (zs : List Int) (hz : zs.length ≤ 65536) (w : World) (hv : Own w base 3 .i64 v zs) :
    Calls Try.prog 60 #[v] w fun e w' => e = .returned (.tuple #[]) ∧ Own w' base 3 .i64 v (sorted zs) ∧ UpX (fun b => v.ownBlock = some b) w w' := by
  have hwf : ∀ x ∈ sorted zs, InK .i64 x := fun x hx => hv.wf x ((sorted_mem zs x).1 hx)
  rcases hv.row.2 with ⟨rfl, h0⟩ | ⟨g, cap, cur, rfl, hb, hg, h1, h2, h3, h4⟩
  · have hx : zs = [] := List.eq_nil_of_length_eq_zero h0
    subst hx
    exact (Try.slices_Sort_int_none none 0 w).mono fun e w' ⟨he, hw⟩ => by
      subst hw
      exact ⟨he, by simpa [sorted] using hv, UpX.refl _ _⟩
  · have hblk : Blk w g 3 cur := ⟨hg⟩
    have hH : Go.Sort.Holds (Value.int .i64) w g 0 zs.toArray := fun j hj => by
      have hj' : j < zs.length := by simpa using hj
      refine ⟨?_, by rw [Nat.zero_add]; exact hblk.frozen j⟩
      have := hv.row.cells (g := g) rfl j (.int .i64 zs[j]) (by simp [List.getElem?_eq_getElem hj'])
      rw [add_lit0] at this
      rw [Nat.zero_add, this, getElem!_pos zs.toArray j hj]
      simp
    refine (Try.slices_Sort_int g 0 cap zs w hH hblk.lt (by omega)).mono fun e w' ⟨he, n, os, hw⟩ => ⟨he, ?_, ?_⟩
    · subst hw
      refine ⟨?_, hwf⟩
      refine ⟨by simp, .inr ⟨g, cap, Go.Sort.putCells (Value.int .i64) 0 (sorted zs).toArray cur, by rw [sorted_len], hb, ?_, by rw [sorted_len]; exact h1, h2, ?_, ?_⟩⟩
      · rw [Go.Sort.heap_grow_old _ _ (by unfold Go.Sort.putRow Go.Sort.mapBlock Go.Sort.ahead; simp; exact hblk.lt)]
        unfold Go.Sort.putRow Go.Sort.mapBlock
        simp only [Array.getElem?_modify, if_true]
        rw [show (Go.Sort.ahead w n).heap[g]? = _ from hg]
        rfl
      · simpa [Go.Sort.putCells] using h3
      · rw [sorted_len, Nat.mul_one]
        refine List.ext_getElem ?_ fun j ha hb => ?_
        · have : cur.size = cap := by simpa using h3
          simp [Go.Sort.putCells, sorted_len, this]; omega
        · have hj : j < (sorted zs).length := by simpa using hb
          have hj2 : j < zs.length := by rw [sorted_len] at hj; exact hj
          simp [Go.Sort.putCells, sorted_len, hj2]
    · subst hw
      refine ⟨rfl, rfl, rfl, by unfold Go.Sort.grow Go.Sort.putRow Go.Sort.mapBlock Go.Sort.ahead; simp, fun k hk hne => ?_⟩
      rw [Go.Sort.heap_grow_old _ _ (by unfold Go.Sort.putRow Go.Sort.mapBlock Go.Sort.ahead; simp; exact hk)]
      unfold Go.Sort.putRow Go.Sort.mapBlock Go.Sort.ahead
      simp only [Array.getElem?_modify]
      rw [if_neg (fun e => hne (by rw [← e]; rfl))]

theorem sorted_calls (g : Nat) (lb : Array Value) (eg : ∀ args w, (callFunc g args).run Try.prog w = .ok (.enter g args) w) (n0 : Nat) (zs : List Int) (hz : zs.length ≤ 65536) (hwf : ∀ z ∈ zs, InK .i64 z) (w : World) (hn0 : n0 ≤ w.heap.size)
    (hseq : SeqAt Fence.wide 4 Try.prog g lb (fun k => #[Value.int .i64 (zs.getD k 0)]) (fun W W' => Below n0 W W') zs.length w) :
    Calls Try.prog 40 #[.func (.func g) #[] lb] w fun e w' => ∃ v, e = .returned v ∧ Own w' w.heap.size 3 .i64 v (sorted zs) ∧ Up w w' := by
  have HC := Lib.hid (collect_calls g lb eg n0 zs hz hwf w hn0 hseq)
  clear hseq hwf hn0
  go_enter Try.func40, Try.ntmps40
  go_wp2_with fail
  refine (HC.out).mono ?_
  rintro e w1 ⟨v, rfl, hv, hu⟩
  clear HC
  have hlt := hv.lt
  have HS := Lib.hid (sort_calls w.heap.size v zs hz w1 hv)
  clear hv
  go_wp2_with fail
  refine (HS.out).mono ?_
  rintro e w2 ⟨rfl, hv2, hx⟩
  go_wp2_with fail
  go_ret
  exact ⟨v, rfl, hv2, hu.thenx hx fun i hi e => by have := hlt i e; omega⟩

/-- slices.Values: the iterator's value. -/
theorem vals_calls (A : Option Addr) (len cap : Nat) (w : World) :
    Calls Try.prog 41 #[.slice A len cap] w fun e w' => e = .returned (.func (.func 61) #[] #[.pointer (some ⟨w.heap.size, 0, none⟩)]) ∧ w' = w.alloc (.cells #[.slice A len cap] 22) := by
  go_enter Try.func41, Try.ntmps41
  go_wp2_with fail
  go_ret
  exact ⟨rfl, rfl⟩
end Go.Proofs.Ytmmacpicbonhhaa
