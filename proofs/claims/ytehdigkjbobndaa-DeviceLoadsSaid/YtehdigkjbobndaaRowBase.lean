/- Arguments, opened: what a reading of plain data says to a walk. -/
import Derived.Test.YtehdigkjbobndaaRows
import Derived.Test.YtehdigkjbobndaaBase
import Derived.ProofKit
import Derived.OpenShut
import Derived.ShutString
import Derived.ChangeOld
import Derived.Below
import Derived.Deep.Matrix
namespace Go.Proofs.Ytehdigkjbobndaa
open Go.ChangeShapes Go.WideShapes Go.ChangeAt Go.RowKit
theorem Try.own : ownKnob Try.prog.godebug = none := by kernel_rfl
theorem Try.laidOut : laidOutB Try.prog = true := by kernel_rfl

section
variable {H : Type} {enc : TypeId × Value → H} {P : Program} {w : World} {base : Nat} {held : Bool}

theorem open_rd {t e : TypeId} {k : IntKind} {A : Option Addr} {n c : Nat} {d : DataW H} {ps : List MemPlace} (ht : P.underlying t = some (.slice e)) (he : P.underlying e = some (.int k)) (hc : P.cellsOf e = 1)
    (h : DataW.Trod enc P w base (fun _ => true) held t (.slice A n c) d ps) : ∃ xs : List Int, n = xs.length ∧ Rd w k A c xs := by
  obtain ⟨fuel, hf⟩ := h
  rcases open_ints ht he hc hf with ⟨hcs, _⟩ | ⟨a, len, cap, zs, hcs, _, hl, hm, hz, _, hcell, hwf⟩
  · simp [Value.cells] at hcs
    obtain ⟨rfl, rfl, rfl⟩ := hcs
    exact ⟨[], rfl, Rd.nil _ _⟩
  · simp [Value.cells] at hcs
    obtain ⟨rfl, rfl, rfl⟩ := hcs
    simp only [if_true] at hz
    have hlen : (zs.take n).length = n := by rw [List.length_take]; omega
    refine ⟨zs.take n, hlen.symm, ⟨by omega, by rw [hlen]; simp only [maxLen] at hm; omega, (fun e => by cases e), fun ad e j hj => ?_, fun x hx => ⟨hwf x (List.mem_of_mem_take hx)⟩⟩⟩
    obtain rfl := Option.some.inj e
    rw [hlen] at hj
    rw [hcell j (by omega)]
    congr 2
    simp only [List.getD_eq_getElem?_getD, List.getElem?_take]
    rw [if_pos hj]

theorem open_rdl {t e q : TypeId} {k : IntKind} {A : Option Addr} {n c : Nat} {d : DataW H} {ps : List MemPlace} (ht : P.underlying t = some (.slice e)) (he : P.underlying e = some (.slice q)) (hq : P.underlying q = some (.int k)) (ce : P.cellsOf e = 1) (cq : P.cellsOf q = 1)
    (h : DataW.Trod enc P w base (fun _ => true) held t (.slice A n c) d ps) : ∃ ls : List (List Int), n = ls.length ∧ RdL w k A c ls := by
  obtain ⟨fuel, hf⟩ := h
  rcases Deep.open_int_rows ht he hq ce cq hf with ⟨hcs, _⟩ | ⟨a, len, cap, AA, L, C, Z, hcs, _, hl, hm, _, hr⟩
  · simp [Value.cells] at hcs
    obtain ⟨rfl, rfl, rfl⟩ := hcs
    exact ⟨[], rfl, RdL.nil _ _⟩
  · simp [Value.cells] at hcs
    obtain ⟨rfl, rfl, rfl⟩ := hcs
    have hlen : ((List.range n).map fun r => (Z r).take (L r)).length = n := by simp
    refine ⟨(List.range n).map fun r => (Z r).take (L r), hlen.symm, ⟨by omega, by first | (rw [hlen]; simp only [maxLen] at hm; omega) | (simp only [maxLen] at hm; omega), (fun e => by cases e), fun ad e j hj => ?_⟩⟩
    obtain rfl := Option.some.inj e
    rw [hlen] at hj
    have hg : ((List.range n).map fun r => (Z r).take (L r)).getD j [] = (Z j).take (L j) := by
      simp [List.getD_eq_getElem?_getD, hj]
    obtain ⟨h1, h2, h3, h4, h5, h6, h7⟩ := hr j (by omega)
    have hzl : ((Z j).take (L j)).length = L j := by rw [List.length_take]; omega
    rw [hg, hzl]
    refine ⟨AA j, C j, h1, ⟨by omega, by rw [hzl]; simp only [maxLen] at h3; omega, fun e => by have := h6 e; rw [hzl]; omega, fun ad' e' i hi => ?_, fun x hx => ⟨h5 x (List.mem_of_mem_take hx)⟩⟩⟩
    rw [hzl] at hi
    rw [(h7 ad' e').2 i (by omega)]
    congr 2
    simp only [List.getD_eq_getElem?_getD, List.getElem?_take]
    rw [if_pos hi]
end
end Go.Proofs.Ytehdigkjbobndaa
