/- The calls of PackedPlays as a row's argument, and the law's contract over them. -/
import Derived.Test.YtneliajeokajbaaOpen
import Derived.Test.YtneliajeokajbaaPkPlays
namespace Go.Proofs.Ytneliajeokajbaa
open Go.RowKit Go.Proofs.YtneliajeokajbaaW.PrintWords

abbrev S70 := Act12
def k70 : Kd S70 := Kd.iso (Kd.pair (Kd.int .i64) (Kd.pair (Kd.int .i64) (Kd.pair (Kd.int .i64) (Kd.slice 3 (Kd.int .i64))))) (fun x : S70 => (x.f0, x.f1, x.f2, x.f3))

theorem rdOfC {w : World} {k : IntKind} {A : Option Addr} {c : Nat} {l : List Int} (h : Kd.C (Kd.int k) w A l.length l) (hc : l.length ≤ c) (hw : ∀ x ∈ l, InK k x) : Rd w k A c l := by
  refine ⟨hc, h.2.1, fun e => ?_, fun ad e j hj => ?_, hw⟩
  · subst e
    rcases Nat.eq_zero_or_pos l.length with h0 | h0
    · exact h0
    · obtain ⟨ad, e, _⟩ := h.2.2 h0
      cases e
  · subst e
    obtain ⟨ad', e, hc⟩ := Kd.at_int h (j : Int) (by omega) (by omega)
    obtain rfl := Option.some.inj e
    simpa [rd] using hc
/-- What the row says of one call. -/
def Act12Wf (x : S70) : Prop := InK .i64 x.f0 ∧ InK .i64 x.f1 ∧ InK .i64 x.f2 ∧ Elems (InK .i64) x.f3
theorem actsR_of {w : World} {A : Option Addr} {ls : List Act12} (h : Kd.C k70 w A ls.length ls) (hw : ∀ x ∈ ls, Act12Wf x) : ActsR w A ls := by
  refine ⟨fun i x hx => ?_, fun x hx => ?_⟩
  · have hil : i < ls.length := (List.getElem?_eq_some_iff.1 hx).1
    obtain ⟨ad, e, hc⟩ := h.2.2 (by omega)
    obtain ⟨cs0, _, hK0, hc0⟩ := hc 0 _ (List.getElem?_eq_getElem (show 0 < ls.length by omega))
    obtain ⟨_, _, rfl, rfl, _⟩ := hK0
    have h00 := hc0 0 _ rfl
    rw [Nat.zero_mul, Nat.zero_add] at h00
    obtain ⟨b, o, rfl⟩ := plain_of h00
    subst e
    obtain ⟨cs, _, hK, hcl⟩ := hc i x hx
    obtain ⟨_, _, rfl, rfl, ⟨_, _, rfl, rfl, ⟨_, _, rfl, rfl, ⟨B, d, rfl, l3, g3⟩⟩⟩⟩ := hK
    have hcl2 : ∀ j u, [Value.int .i64 x.f0, .int .i64 x.f1, .int .i64 x.f2, .slice B x.f3.length d][j]? = some u → w.cell? ⟨b, o + i * 4 + j, none⟩ = some u := fun j u hu => by
      have := hcl j u hu
      rw [add_plain] at this
      rw [Nat.add_assoc]
      exact this
    exact ⟨b, o, rfl, hcl2 0 _ rfl, hcl2 1 _ rfl, hcl2 2 _ rfl, B, d, hcl2 3 _ rfl, rdOfC g3 l3 (hw x (List.mem_of_getElem? hx)).2.2.2.all⟩
  · exact ⟨(hw x hx).1, (hw x hx).2.1, (hw x hx).2.2.1⟩
theorem playsRow (W0 : Int) (A1 : Option Addr) (c1 : Nat) (l1 : List Int) (A2 : Option Addr) (c2 : Nat) (l2 : List S70) (w : World) (hC1 : Kd.C (Kd.int .i64) w A1 l1.length l1) (hc1 : l1.length ≤ c1)
    (hC2 : Kd.C k70 w A2 l2.length l2) (hc2 : l2.length ≤ c2) (hW : InK .i64 W0) (hw1 : ∀ x ∈ l1, InK .i64 x) (hw2 : ∀ x ∈ l2, Act12Wf x) :
    Calls Try.prog 6 #[.int .i64 W0, .slice A1 l1.length c1, .slice A2 l2.length c2] w fun e w' => e = .returned (.bool true) ∧ Up w w' :=
  lawPackedPlays_calls W0 A1 c1 l1 A2 c2 l2 w (rdOfC hC1 hc1 hw1) (actsR_of hC2 hw2) hc2 hW
end Go.Proofs.Ytneliajeokajbaa
