/- Arguments, opened: what a reading of plain data says of a value's cells, kind by kind (slices, structs, slices of structs ..). Over any program. -/
import Derived.Test.YtehdigkjbobndaaWWords
import Derived.Test.YtehdigkjbobndaaBase
import Derived.ProofKit
import Derived.OpenShut
import Derived.ChangeOld
import Derived.Below
namespace Go.Proofs.Ytehdigkjbobndaa
open Go.ChangeShapes Go.WideShapes Go.ChangeAt Go.RowKit Go.Proofs.YtehdigkjbobndaaW.PrintWords

theorem exists_list {α : Type} (p : Nat → α → Prop) : ∀ n, (∀ i, i < n → ∃ v, p i v) → ∃ l : List α, l.length = n ∧ ∀ i v, l[i]? = some v → p i v
  | 0, _ => ⟨[], rfl, fun i v h => by simp at h⟩
  | n + 1, h => by
    obtain ⟨l, hl, hp⟩ := exists_list p n fun i hi => h i (by omega)
    obtain ⟨v, hv⟩ := h n (by omega)
    refine ⟨l ++ [v], by simp [hl], fun i u hu => ?_⟩
    rcases Nat.lt_or_ge i n with hi | hi
    · rw [List.getElem?_append_left (by omega)] at hu
      exact hp i u hu
    · rw [List.getElem?_append_right (by omega), hl] at hu
      rcases Nat.eq_zero_or_pos (i - n) with h0 | h0
      · rw [h0] at hu
        obtain rfl := Option.some.inj hu
        obtain rfl : i = n := by omega
        exact hv
      · rw [List.getElem?_eq_none (by simp; omega)] at hu
        cases hu

/-- What the cells of a type's value say. -/
structure Opens {α : Type} (P : Program) (w : World) (d : Kd α) (Wf : α → Prop) (t : TypeId) : Prop where
  sz : P.cellsOf t = d.sz
  of : ∀ {H : Type} {enc : TypeId × Value → H} {base : Nat} {held : Bool} {fuel : Nat} {cs : List Value} {x : DataW H × List MemPlace}, DataW.trod enc P w base (fun _ => true) held fuel t cs = some x → ∃ v, Wf v ∧ d.K w v cs
section
variable {P : Program} {w : World} {t : TypeId}
theorem Opens.int {k : IntKind} (ht : P.underlying t = some (.int k)) (hc : P.cellsOf t = 1) : Opens P w (Kd.int k) (InK k) t :=
  ⟨hc, fun h => by
    obtain ⟨n, rfl, _, hw⟩ := DataW.trod_int ht h
    exact ⟨n, ⟨hw⟩, rfl⟩⟩
theorem Opens.bool (ht : P.underlying t = some .bool) (hc : P.cellsOf t = 1) : Opens P w Kd.bool (fun _ => True) t :=
  ⟨hc, fun h => by
    obtain ⟨b, rfl, _⟩ := DataW.trod_bool ht h
    exact ⟨b, trivial, rfl⟩⟩
/-- Elements that are right, and not too many. -/
structure Elems {α : Type} (Wf : α → Prop) (l : List α) : Prop where
  all : ∀ x ∈ l, Wf x
  max : l.length ≤ maxLen
theorem Opens.slice {α : Type} {d : Kd α} {Wf : α → Prop} {e q : TypeId} (ht : P.underlying t = some (.slice e)) (hc : P.cellsOf t = 1) (h : Opens P w d Wf e) : Opens P w (Kd.slice q d) (Elems Wf) t :=
  ⟨hc, fun hd => by
    rcases DataW.trod_slice ht hd with ⟨rfl, _⟩ | ⟨a, len, cap, elems, rest, n, _, rfl, _, _, hl, hm, hlen, hel, _, _⟩
    · exact ⟨[], ⟨fun _ hx => absurd hx (by simp), by simp⟩, none, 0, rfl, Nat.le_refl _, Kd.C_nil _ _⟩
    · have hx : ∀ i, i < len → ∃ v, Wf v ∧ ∃ c, c.length = d.sz ∧ d.K w v c ∧ ∀ j u, c[j]? = some u → w.cell? (a.add (i * d.sz + j)) = some u := by
        intro i hi
        have h1 := hel i hi
        rw [List.getElem?_eq_getElem (show i < elems.length by omega), Option.bind_eq_some_iff] at h1
        obtain ⟨c, hcs, htr⟩ := h1
        obtain ⟨v, hv, hk⟩ := h.of htr
        obtain ⟨_, h2, h3⟩ := World.cells?_some hcs
        rw [h.sz] at h2 h3
        refine ⟨v, hv, c, h2, hk, fun j u hu => ?_⟩
        have hj : j < d.sz := by have := (List.getElem?_eq_some_iff.1 hu).1; omega
        have := h3 j hj
        rw [addr_add_add, hu] at this
        exact this
      obtain ⟨l, hll, hp⟩ := exists_list _ len hx
      refine ⟨l, ⟨fun x hxm => ?_, by omega⟩, some a, cap, by rw [hll], by omega, ?_⟩
      · obtain ⟨i, hi⟩ := List.getElem?_of_mem hxm
        exact (hp i x hi).1
      · refine ⟨rfl, by rw [hll]; simp only [maxLen] at hm; omega, fun _ => ⟨a, rfl, fun j p hj => (hp j p hj).2⟩⟩⟩
/-- The same of fields, from an offset on. -/
structure OpensF {α : Type} (P : Program) (w : World) (fs : List Field) (off : Nat) (d : Kd α) (Wf : α → Prop) : Prop where mk ::
  of : ∀ {H : Type} {enc : TypeId × Value → H} {base : Nat} {held : Bool} {n : Nat} {cs : List Value}, off + d.sz = cs.length →
    (∀ f ∈ fs, ∃ x, DataW.trod enc P w base (fun _ => true) held n f.type ((cs.drop f.offset).take (P.cellsOf f.type)) = some x) → ∃ v, Wf v ∧ d.K w v (cs.drop off)
theorem OpensF.one {α : Type} {d : Kd α} {Wf : α → Prop} {f : Field} {off : Nat} (h : Opens P w d Wf f.type) (ho : f.offset = off) : OpensF P w [f] off d Wf :=
  ⟨fun hl hf => by
    obtain ⟨x, hx⟩ := hf f (by simp)
    obtain ⟨v, hv, hk⟩ := h.of hx
    rw [ho, h.sz, List.take_of_length_le (by rw [List.length_drop]; omega)] at hk
    exact ⟨v, hv, hk⟩⟩
theorem OpensF.cons {α β : Type} {a : Kd α} {b : Kd β} {WA : α → Prop} {WB : β → Prop} {f : Field} {fs : List Field} {off : Nat} (h : Opens P w a WA f.type) (ho : f.offset = off) (hr : OpensF P w fs (off + a.sz) b WB) :
    OpensF P w (f :: fs) off (Kd.pair a b) (fun x => WA x.1 ∧ WB x.2) :=
  ⟨fun {H enc base held n cs} hl hf => by
    have hl' : off + (a.sz + b.sz) = cs.length := hl
    obtain ⟨x, hx⟩ := hf f (by simp)
    obtain ⟨v, hv, hk⟩ := h.of hx
    obtain ⟨u, hu, hku⟩ := hr.of (by omega) fun g hg => hf g (by simp [hg])
    rw [ho, h.sz] at hk
    refine ⟨(v, u), ⟨hv, hu⟩, (cs.drop off).take a.sz, cs.drop (off + a.sz), ?_, hk, hku⟩
    rw [← List.drop_drop, List.take_append_drop]⟩
theorem Opens.struct {α β : Type} {d : Kd α} {Wf : α → Prop} {fs : Array Field} (ht : P.underlying t = some (.struct fs)) (hc : P.cellsOf t = d.sz) (h : OpensF P w fs.toList 0 d Wf) (f : β → α) (g : α → β) (hfg : ∀ a, f (g a) = a) :
    Opens P w (Kd.iso d f) (fun x => Wf (f x)) t :=
  ⟨hc, fun {H enc base held fuel cs x} hd => by
    obtain ⟨xs, n, _, _, hl, hx, hall⟩ := DataW.trod_struct ht hd
    obtain ⟨v, hv, hk⟩ := h.of (n := n) (cs := cs) (by omega) fun fl hfl => by
      obtain ⟨i, hi⟩ := List.getElem?_of_mem hfl
      rw [Array.getElem?_toList] at hi
      have h1 := hall i fl hi
      have hlt : i < xs.length := by
        have := (Array.getElem?_eq_some_iff.1 hi).1
        omega
      rw [List.getElem?_eq_getElem hlt] at h1
      exact ⟨_, h1⟩
    refine ⟨g v, by rw [hfg]; exact hv, ?_⟩
    show d.K w (f (g v)) _
    rw [hfg]
    simpa using hk⟩
/-- An argument that is a slice. -/
theorem open_slice {α : Type} {d : Kd α} {Wf : α → Prop} {e : TypeId} (ht : P.underlying t = some (.slice e)) (hc : P.cellsOf t = 1) (h : Opens P w d Wf e) {H : Type} {enc : TypeId × Value → H} {base : Nat} {held : Bool} {A : Option Addr} {n c : Nat} {x : DataW H} {ps : List MemPlace}
    (hd : DataW.Trod enc P w base (fun _ => true) held t (.slice A n c) x ps) : ∃ l : List α, n = l.length ∧ l.length ≤ c ∧ Kd.C d w A l.length l ∧ Elems Wf l := by
  obtain ⟨fuel, hf⟩ := hd
  obtain ⟨l, hw, A', c', he, hl, hC⟩ := (Opens.slice (q := e) ht hc h).of hf
  simp [Value.cells] at he
  obtain ⟨rfl, rfl, rfl⟩ := he
  exact ⟨l, rfl, hl, hC, hw⟩
/-- An argument that is a struct. -/
theorem open_struct {α : Type} {d : Kd α} {Wf : α → Prop} (h : Opens P w d Wf t) {H : Type} {enc : TypeId × Value → H} {base : Nat} {held : Bool} {cs : Array Value} {x : DataW H} {ps : List MemPlace}
    (hd : DataW.Trod enc P w base (fun _ => true) held t (.agg cs) x ps) : ∃ v, Wf v ∧ d.K w v cs.toList := by
  obtain ⟨fuel, hf⟩ := hd
  exact h.of hf
end
end Go.Proofs.Ytehdigkjbobndaa
