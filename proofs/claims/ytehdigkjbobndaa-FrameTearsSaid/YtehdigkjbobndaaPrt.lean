/- Between the printed contracts' words (Kd.C, Kd.R, Below) and ours (Rd, Own, Up). -/
import Derived.Test.YtehdigkjbobndaaWWords
import Derived.Test.YtehdigkjbobndaaBase
namespace Go.Proofs.Ytehdigkjbobndaa
open Go.RowKit Go.Proofs.YtehdigkjbobndaaW.PrintWords

theorem kd_of_rd {w : World} {k : IntKind} {A : Option Addr} {c : Nat} {l : List Int} (h : Rd w k A c l) : Kd.C (Kd.int k) w A l.length l := by
  refine ⟨rfl, h.len, fun h0 => ?_⟩
  cases A with
  | none => have := h.non rfl; have := h.le; omega
  | some ad =>
    refine ⟨ad, rfl, fun j p hp => ?_⟩
    obtain ⟨hj, rfl⟩ := List.getElem?_eq_some_iff.1 hp
    refine ⟨[.int k l[j]], rfl, rfl, fun i u hu => ?_⟩
    cases i with
    | zero =>
      simp only [List.getElem?_cons_zero, Option.some.injEq] at hu
      subst hu
      have := h.cell ad rfl j hj
      simpa [Kd.int, Kd.scalar, List.getD_eq_getElem?_getD, hj] using this
    | succ i => simp at hu
theorem rd_of_kd {w : World} {k : IntKind} {A : Option Addr} {l : List Int} (h : Kd.C (Kd.int k) w A l.length l) (hw : ∀ x ∈ l, InK k x) : Rd w k A l.length l := by
  refine ⟨Nat.le_refl _, h.2.1, fun e => ?_, fun ad e j hj => ?_, hw⟩
  · subst e
    rcases Nat.eq_zero_or_pos l.length with h0 | h0
    · exact h0
    · obtain ⟨ad, e, _⟩ := h.2.2 h0
      cases e
  · subst e
    obtain ⟨ad', e, hc⟩ := Kd.at_int h (j : Int) (by omega) (by omega)
    obtain rfl := Option.some.inj e
    simpa [rd] using hc
theorem rd_of_kdc {w : World} {k : IntKind} {A : Option Addr} {c : Nat} {l : List Int} (h : Kd.C (Kd.int k) w A l.length l) (hc : l.length ≤ c) (hw : ∀ x ∈ l, InK k x) : Rd w k A c l :=
  have r := rd_of_kd h hw
  ⟨hc, r.mx, r.non, r.cell, r.wf⟩
theorem own_of_kd {w : World} {base e : Nat} {k : IntKind} {ok : Nat → Prop} {v : Value} {l : List Int} (h : Kd.R (Kd.int k) e w base ok v l) (hw : ∀ x ∈ l, InK k x) : Own w base e k v l :=
  ⟨Kd.own_of_R h, hw⟩
theorem kd_of_own {w : World} {base e : Nat} {k : IntKind} {ok : Nat → Prop} {v : Value} {l : List Int} (h : Own w base e k v l) (hok : ∀ b, v.ownBlock = some b → ok b) : Kd.R (Kd.int k) e w base ok v l :=
  Kd.R_of_own h.row hok
/-- Numbers of a kind, as a test. -/
def inKs (k : IntKind) (l : List Int) : Bool := l.all fun x => (Lit.int k x).wf
theorem inKs_of {k : IntKind} {l : List Int} (h : inKs k l = true) : ∀ x ∈ l, InK k x := fun x hx => ⟨by
  unfold inKs at h
  rw [List.all_eq_true] at h
  exact h x hx⟩
theorem inKs_mk {k : IntKind} {l : List Int} (h : ∀ x ∈ l, InK k x) : inKs k l = true := by
  unfold inKs
  rw [List.all_eq_true]
  exact fun x hx => (h x hx).wf
theorem if_some {α : Type} {c : Bool} {x r : α} (h : (if c = true then some x else none) = some r) : c = true ∧ x = r := by
  cases c with
  | true => exact ⟨rfl, Option.some.inj h⟩
  | false => cases h
end Go.Proofs.Ytehdigkjbobndaa
