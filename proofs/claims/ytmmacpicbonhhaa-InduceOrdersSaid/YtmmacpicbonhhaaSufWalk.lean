/- Layer 15: what is walked by hand: slices.Clone of ints; the test in suffix.Check. -/
import Derived.Test.YtmmacpicbonhhaaBaseM
import Derived.Test.YtmmacpicbonhhaaContains
import Derived.Lib.AppendZeros
import Derived.Laws.BytesArg
namespace Go.Proofs.Ytmmacpicbonhhaa
open Go.RowKit
set_option maxRecDepth 100000

theorem run_eql_nil' {P : Program} (w : World) {t e : TypeId} (A : Option Addr) (l c : Nat) (h : P.underlying t = some (.slice e)) : (binOp .eql t (.slice A l c) (.slice none 0 0)).run P w = .ok (.bool A.isNone) w := Lib.run_eql_slice_nil w t e A l c _ _ h
theorem infoInt' : (Try.prog.info? 3).map (fun i => (i.zero, i.size, i.bytes)) = some (some (.int .i64 0), 1, 8) := by kernel_rfl
set_option maxHeartbeats 1000000 in
theorem cloneInts_calls (A : Option Addr) (c c0 : Nat) (l : List Int) (w : World) (h1 : Rd w .i64 A c l) (hb : l.length * 8 ≤ 140737488355328) :
    Calls Try.prog 72 #[.slice A l.length c0] w (RetOwn w 3 .i64 l) := by
  have he := fun (w : World) (A : Option Addr) (n c : Nat) => run_eql_nil' (P := Try.prog) w A n c Try.underlying22
  cases A with
  | none =>
    have h0 := h1.non rfl
    have h2 := h1.le
    have hl : l = [] := List.eq_nil_of_length_eq_zero (by omega)
    subst hl
    go_enter Try.func72, Try.ntmps72
    go_wp2
    go_ret
    exact RetOwn.of (Own.nil _ _ _ _) (Up.refl _)
  | some ad =>
    have ho : Own (w.alloc (.cells #[] 3)) w.heap.size 3 .i64 (.slice (some ⟨w.heap.size, 0, none⟩) 0 0) [] := Own.lit w _ _ _ [] (Nat.le_refl _) (by simp) (by simp) 0 rfl _ rfl
    have hu := (Up.refl w).alloc (.cells #[] 3)
    have hy : ∀ j u, (l.map (Value.int .i64))[j]? = some u → (w.alloc (.cells #[] 3)).cell? (ad.add j) = some u := by
      intro j u hju
      obtain ⟨hj, rfl⟩ := List.getElem?_eq_some_iff.1 hju
      simp only [List.length_map] at hj
      rw [(h1.up hu).cell ad rfl j hj]
      simp [List.getD_eq_getElem?_getD, List.getElem?_eq_getElem hj]
    go_enter Try.func72, Try.ntmps72
    go_wp2_with (refine wpl_appendV2 (t := 22) w.heap.size 3 (.int .i64 0) 8 Try.underlying22 infoInt' rfl (.slice (some ⟨w.heap.size, 0, none⟩) 0 0) [] rfl ⟨by simpa using ho.row⟩ ad l.length c0 (l.map (.int .i64)) rfl (by simp) hy (fun u hu => by obtain ⟨_, _, rfl⟩ := List.mem_map.1 hu; rfl) (by simpa using hb) (by decide) (by simp) ?_; intro v w2 hv hu2 _)
    go_ret
    exact RetOwn.of ⟨by simpa using hv.row, h1.wf⟩ (hu.thenx hu2 fun i hi e => by have e' : w.heap.size = i := Option.some.inj e; omega)

/-- A code that is none. -/
def badCode (c : Int) : Bool := decide (c < 0) || decide (65536 ≤ c)
theorem sufCheckF_calls (c : Int) (w : World) : Calls Try.prog 68 #[.int .i64 c] w fun e w' => e = .returned (.bool (badCode c)) ∧ w = w' := by
  by_cases h1 : c < 0
  · have HE : Hid (badCode c = true) := Lib.hid (by unfold badCode; rw [decide_eq_true h1]; rfl)
    go_enter Try.func68, Try.ntmps68
    go_wp2_with fail
    go_ret
    exact ⟨by rw [HE.out]; rfl, rfl⟩
  · have h2 : 0 ≤ c := by omega
    have h3 : decide (c < 0) = false := decide_eq_false h1
    have HE : Hid (badCode c = decide (65536 ≤ c)) := Lib.hid (by unfold badCode; rw [h3]; rfl)
    clear h1
    go_enter Try.func68, Try.ntmps68
    go_wp2_with fail
    go_ret
    exact ⟨by rw [HE.out]; rfl, rfl⟩
theorem containsBad (A : Option Addr) (c c0 : Nat) (l : List Int) (w : World) (h1 : Rd w .i64 A c l) :
    Calls Try.prog 67 #[.slice A l.length c0, .func (.func 68) #[] #[]] w fun e w' => e = .returned (.bool (l.any badCode)) ∧ w = w' :=
  containsFunc_calls' badCode 68 #[] A c c0 l w h1 (fun args w => by kernel_rfl) (fun n wr _ _ => sufCheckF_calls n wr)
end Go.Proofs.Ytmmacpicbonhhaa
