/- The calls and what crashes keep as a row's arguments; DeviceKeeps over them. -/
import Derived.Test.YtehdigkjbobndaaOpen
import Derived.Test.YtehdigkjbobndaaDevKp
namespace Go.Proofs.Ytehdigkjbobndaa
open Go.RowKit Go.Proofs.YtehdigkjbobndaaW.PrintWords

structure K3 where
  f0 : Int
  f1 : Int
  f2 : Int
abbrev S108 := K3
def k108 : Kd S108 := Kd.iso (Kd.pair (Kd.int .i64) (Kd.pair (Kd.int .i64) (Kd.int .i64))) (fun x : S108 => (x.f0, x.f1, x.f2))
structure A4 where
  f0 : Int
  f1 : Int
  f2 : List Int
  f3 : List K3
abbrev S40 := A4
def k40 : Kd S40 := Kd.iso (Kd.pair (Kd.int .i64) (Kd.pair (Kd.int .i64) (Kd.pair (Kd.slice 5 (Kd.int .u8)) (Kd.slice 108 k108)))) (fun x : S40 => (x.f0, x.f1, x.f2, x.f3))
def kOf (x : K3) : KeepS := ⟨x.f0, x.f1, x.f2⟩
def aOf (x : A4) : Act3 := ⟨x.f0, x.f1, x.f2, x.f3.map kOf⟩
def K3Wf (x : S108) : Prop := InK .i64 x.f0 ∧ InK .i64 x.f1 ∧ InK .i64 x.f2
def A4Wf (x : S40) : Prop := InK .i64 x.f0 ∧ InK .i64 x.f1 ∧ Elems (InK .u8) x.f2 ∧ Elems K3Wf x.f3
theorem plain_of {w : World} {ad : Addr} {v : Value} (h : w.cell? (ad.add 0) = some v) : ∃ b o, ad = ⟨b, o, none⟩ := by
  obtain ⟨b, o, s⟩ := ad
  cases s with
  | none => exact ⟨b, o, rfl⟩
  | some s =>
    rw [show (⟨b, o, some s⟩ : Addr).add 0 = ⟨b, o, some s⟩ from rfl] at h
    unfold World.cell? at h
    split at h
    · simp at h
    · cases h
theorem add_plain (b o j : Nat) : (⟨b, o, none⟩ : Addr).add j = ⟨b, o + j, none⟩ := by
  unfold Addr.add
  split <;> simp_all
theorem rdOfC {w : World} {k : IntKind} {A : Option Addr} {c : Nat} {l : List Int} (h : Kd.C (Kd.int k) w A l.length l) (hc : l.length ≤ c) (hw : ∀ x ∈ l, InK k x) : Rd w k A c l := by
  refine ⟨hc, h.2.1, fun e => ?_, fun ad e j hj => ?_, hw⟩
  · subst e
    rcases Nat.eq_zero_or_pos l.length with h0 | h0
    · exact h0
    · obtain ⟨ad, e, _⟩ := h.2.2 h0
      cases e
  · subst e
    obtain ⟨ad', e, hc⟩ := Kd.at_int h (j : Int) (by omega) (by omega)
    obtain rfl := Option.some.inj e
    simpa [rd] using hc
theorem keepsR_of {w : World} {A : Option Addr} {ls : List K3} (h : Kd.C k108 w A ls.length ls) (hw : ∀ x ∈ ls, K3Wf x) : KeepsR w A (ls.map kOf) := by
  refine ⟨fun i y hy => ?_, fun y hy => ?_⟩
  · rw [List.getElem?_map, Option.map_eq_some_iff] at hy
    obtain ⟨x, hx, rfl⟩ := hy
    have hil : i < ls.length := (List.getElem?_eq_some_iff.1 hx).1
    obtain ⟨ad, e, hc⟩ := h.2.2 (by omega)
    obtain ⟨cs0, _, hK0, hc0⟩ := hc 0 _ (List.getElem?_eq_getElem (show 0 < ls.length by omega))
    obtain ⟨_, _, rfl, rfl, _⟩ := hK0
    have h00 := hc0 0 _ rfl
    rw [Nat.zero_mul, Nat.zero_add] at h00
    obtain ⟨b, o, rfl⟩ := plain_of h00
    subst e
    obtain ⟨cs, _, hK, hcl⟩ := hc i x hx
    obtain ⟨_, _, rfl, rfl, ⟨_, _, rfl, rfl, rfl⟩⟩ := hK
    have hcl2 : ∀ j u, [Value.int .i64 x.f0, .int .i64 x.f1, .int .i64 x.f2][j]? = some u → w.cell? ⟨b, o + i * 3 + j, none⟩ = some u := fun j u hu => by
      have := hcl j u hu
      rw [add_plain] at this
      rw [Nat.add_assoc]
      exact this
    exact ⟨b, o, rfl, hcl2 0 _ rfl, hcl2 1 _ rfl, hcl2 2 _ rfl⟩
  · obtain ⟨x, hx, rfl⟩ := List.mem_map.1 hy
    exact ⟨(hw x hx).1, (hw x hx).2.1, (hw x hx).2.2⟩
theorem actsR_of {w : World} {A : Option Addr} {ls : List A4} (h : Kd.C k40 w A ls.length ls) (hw : ∀ x ∈ ls, A4Wf x) : ActsR3 w A (ls.map aOf) := by
  refine ⟨fun i y hy => ?_, fun y hy => ?_, by rw [List.length_map]; exact h.2.1⟩
  · rw [List.getElem?_map, Option.map_eq_some_iff] at hy
    obtain ⟨x, hx, rfl⟩ := hy
    have hil : i < ls.length := (List.getElem?_eq_some_iff.1 hx).1
    obtain ⟨ad, e, hc⟩ := h.2.2 (by omega)
    obtain ⟨cs0, _, hK0, hc0⟩ := hc 0 _ (List.getElem?_eq_getElem (show 0 < ls.length by omega))
    obtain ⟨_, _, rfl, rfl, _⟩ := hK0
    have h00 := hc0 0 _ rfl
    rw [Nat.zero_mul, Nat.zero_add] at h00
    obtain ⟨b, o, rfl⟩ := plain_of h00
    subst e
    obtain ⟨cs, _, hK, hcl⟩ := hc i x hx
    obtain ⟨_, _, rfl, rfl, ⟨_, _, rfl, rfl, ⟨_, _, rfl, ⟨B, d, rfl, l2, g2⟩, ⟨B3, d3, rfl, l3, g3⟩⟩⟩⟩ := hK
    have hcl2 : ∀ j u, [Value.int .i64 x.f0, .int .i64 x.f1, .slice B x.f2.length d, .slice B3 x.f3.length d3][j]? = some u → w.cell? ⟨b, o + i * 4 + j, none⟩ = some u := fun j u hu => by
      have := hcl j u hu
      rw [add_plain] at this
      rw [Nat.add_assoc]
      exact this
    obtain ⟨_, _, w2, w3⟩ := hw x (List.mem_of_getElem? hx)
    exact ⟨b, o, rfl, hcl2 0 _ rfl, hcl2 1 _ rfl, ⟨B, d, hcl2 2 _ rfl, rdOfC g2 l2 w2.all⟩, B3, d3, by show w.cell? _ = some (.slice B3 (x.f3.map kOf).length d3); rw [List.length_map]; exact hcl2 3 _ rfl, keepsR_of g3 w3.all, by show (x.f3.map kOf).length ≤ d3; rw [List.length_map]; exact l3⟩
  · obtain ⟨x, hx, rfl⟩ := List.mem_map.1 hy
    exact ⟨(hw x hx).1, (hw x hx).2.1⟩
theorem keepsRow (A0 : Option Addr) (c0 : Nat) (l0 : List S40) (A1 : Option Addr) (c1 : Nat) (l1 : List S40) (A2 : Option Addr) (c2 : Nat) (l2 : List S108) (w : World) (hC0 : Kd.C k40 w A0 l0.length l0) (hc0 : l0.length ≤ c0)
    (hC1 : Kd.C k40 w A1 l1.length l1) (hc1 : l1.length ≤ c1) (hC2 : Kd.C k108 w A2 l2.length l2) (hc2 : l2.length ≤ c2) (w0 : ∀ x ∈ l0, A4Wf x) (w1 : ∀ x ∈ l1, A4Wf x) (w2 : ∀ x ∈ l2, K3Wf x) :
    Calls Try.prog 4 #[.slice A0 l0.length c0, .slice A1 l1.length c1, .slice A2 l2.length c2] w fun e w' => e = .returned (.bool true) ∧ Up w w' := by
  have := lawDeviceKeeps_calls A0 c0 (l0.map aOf) A1 c1 (l1.map aOf) A2 c2 (l2.map kOf) w (actsR_of hC0 w0) (by rw [List.length_map]; exact hc0) (actsR_of hC1 w1) (by rw [List.length_map]; exact hc1) (keepsR_of hC2 w2) (by rw [List.length_map]; exact hc2) (by rw [List.length_map]; exact hC2.2.1)
  simp only [List.length_map] at this
  exact this
end Go.Proofs.Ytehdigkjbobndaa
