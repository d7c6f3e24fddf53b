/- What the order's making asks of its arguments, as a test; induced by the printed contracts' words. -/
import Derived.Test.YtmmacpicbonhhaaIndH
import Derived.Test.YtmmacpicbonhhaaPrt
namespace Go.Proofs.Ytmmacpicbonhhaa
open Go.RowKit Go.Proofs.YtmmacpicbonhhaaW.PrintWords
set_option maxRecDepth 100000

def CodesP (x : List Int) : Prop := 0 < x.length ∧ x.length ≤ 65536 ∧ ∀ y ∈ x, 0 ≤ y ∧ y < 65536
instance (x : List Int) : Decidable (CodesP x) := by unfold CodesP; infer_instance
theorem CodesP.codes {x : List Int} (h : CodesP x) : Codes x := ⟨h.1, h.2.1, h.2.2⟩
theorem Codes.wf {x : List Int} (h : Codes x) : ∀ y ∈ x, InK .i64 y := fun y hy => by
  have := h.rng y hy
  exact InK.of_i64 (by omega) (by omega)
def TxP (x : List Int) : Prop := x.getD (x.length - 1) 0 = 0 ∧ ∀ i ∈ List.range x.length, i + 1 < x.length → 0 < x.getD i 0
instance (x : List Int) : Decidable (TxP x) := by unfold TxP; infer_instance
def FsP (x l : List Int) : Prop := l.length ≤ 65536 ∧ l ≠ [] ∧ l.Nodup ∧ (∀ z ∈ l, 0 ≤ z ∧ z.toNat < x.length ∧ Ind.lms x z.toNat = true) ∧ ∀ i ∈ List.range x.length, Ind.lms x i = true → (i : Int) ∈ l
instance (x l : List Int) : Decidable (FsP x l) := by unfold FsP; infer_instance
def IndPre (x l : List Int) (ks : List Bool) (e : Int) : Prop := 2 ≤ x.length ∧ CodesP x ∧ TxP x ∧ FsP x l ∧ e = 0 ∧ ks = (List.range x.length).map (Ind.knd x)
instance (x l : List Int) (ks : List Bool) (e : Int) : Decidable (IndPre x l ks e) := by unfold IndPre; infer_instance
variable {x l : List Int} {ks : List Bool} {e : Int}
theorem IndPre.codes (h : IndPre x l ks e) : Codes x := h.2.1.codes
theorem IndPre.wf1 (h : IndPre x l ks e) : ∀ z ∈ l, InK .i64 z := fun z hz => by
  have h1 := (h.2.2.2.1.2.2.2.1 z hz)
  have := h.2.1.2.1
  exact InK.of_i64 (by omega) (by omega)
theorem IndPre.tx (h : IndPre x l ks e) : Ind.Tx x := ⟨by have := h.1; omega, h.2.2.1.1, fun i hi => h.2.2.1.2 i (List.mem_range.2 (by omega)) hi⟩
theorem FsP.nat (h : FsP x l) : l = (l.map Int.toNat).map fun (i : Nat) => (i : Int) := by
  rw [List.map_map]
  refine List.ext_getElem (by simp) fun i h1 h2 => ?_
  have := h.2.2.2.1 l[i] (List.getElem_mem h1)
  simp
  omega
theorem FsP.nodup (h : FsP x l) : (l.map Int.toNat).Nodup := by
  have h1 := h.2.2.1
  rw [h.nat] at h1
  rw [List.nodup_iff_pairwise_ne, List.pairwise_map] at h1
  rw [List.nodup_iff_pairwise_ne]
  exact h1.imp fun hne e => hne (by rw [e])
theorem FsP.mem (h : FsP x l) (i : Nat) : i ∈ l.map Int.toNat ↔ i < x.length ∧ Ind.lms x i = true := by
  constructor
  · intro hi
    obtain ⟨z, hz, rfl⟩ := List.mem_map.1 hi
    exact ⟨(h.2.2.2.1 z hz).2.1, (h.2.2.2.1 z hz).2.2⟩
  · rintro ⟨h1, h2⟩
    exact List.mem_map.2 ⟨_, h.2.2.2.2 i (List.mem_range.2 h1) h2, by simp⟩

theorem natI {n : Nat} {q : List Int} (h : ∀ z ∈ q, 0 ≤ z ∧ z < (n : Int)) : q = (q.map Int.toNat).map fun (i : Nat) => (i : Int) := by
  rw [List.map_map]
  refine List.ext_getElem (by simp) fun i h1 h2 => ?_
  have := h q[i] (List.getElem_mem h1)
  simp
  omega
theorem natI_in {n : Nat} {q : List Int} (h : ∀ z ∈ q, 0 ≤ z ∧ z < (n : Int)) : ∀ i ∈ q.map Int.toNat, i < n := fun i hi => by
  obtain ⟨z, hz, rfl⟩ := List.mem_map.1 hi
  have := h z hz
  omega
theorem natI_lt {n : Nat} {q : List Int} (h1 : q.Pairwise (· < ·)) (h : ∀ z ∈ q, 0 ≤ z ∧ z < (n : Int)) : (q.map Int.toNat).Pairwise (· < ·) := by
  rw [List.pairwise_map]
  exact h1.imp_of_mem fun {a b} ha hb hab => by have := h a ha; have := h b hb; omega
theorem kdPost_of {w w' : World} {en : Ending} {v : Value} (he : en = .returned (.tuple #[v, .int .i64 e])) (hv : Kd.R Kd.bool 4 w' w.heap.size (fun _ => True) v ks) (hb : Below w.heap.size w w') (hp : IndPre x l ks e) : KdPost x w en w' := by
  obtain ⟨B, c, rfl, _, hr⟩ := Kd.R_reads hv
  have hk := hp.2.2.2.2.2
  have hl : ks.length = x.length := by rw [hk]; simp
  have hat : ∀ i, i < x.length → ∃ ad, B = some ad ∧ w'.cell? (ad.add i) = some (.bool (Ind.knd x i)) := fun i hi => by
    obtain ⟨ad, e1, hc⟩ := Kd.at_bool hr (i : Int) (by omega) (by omega)
    refine ⟨ad, e1, ?_⟩
    rw [show ((i : Int)).toNat = i by simp] at hc
    rw [hc]
    unfold rdOf
    rw [hk]
    simp [List.getD_eq_getElem?_getD, hi]
  refine ⟨B, c, by rw [he, hl, hp.2.2.2.2.1], ⟨hat⟩, fun ad e1 => ?_, ⟨hb⟩⟩
  obtain ⟨ad', e2, hc⟩ := hat 0 (by have := hp.1; omega)
  rw [e1] at e2
  cases e2
  have := World.block_lt_of_cell? w' (ad.add 0) hc
  rwa [add_block] at this

theorem kdb_of_blk {w : World} {g base n : Nat} {l : List Bool} (h : Blk w g 4 (l.map Value.bool).toArray) (hb : base ≤ g) (hn : n = l.length) (hm : l.length ≤ 65536) : Kd.R Kd.bool 4 w base (fun _ => True) (.slice (some ⟨g, 0, none⟩) n n) l := by
  subst hn
  exact Kd.R_of_own (xs := l) ⟨by simp [encs], .inr ⟨g, l.length, _, rfl, hb, h.out, Nat.le_refl _, by simp [maxLen]; omega, by simp, by simp [encs]; exact List.take_of_length_le (by simp)⟩⟩ fun _ _ => trivial
theorem induced_own (A0 A1 : Option Addr) (c0 c1 : Nat) (x l : List Int) (w : World) (ks : List Bool) (e : Int) (h0 : Rd w .i64 A0 c0 x) (h1 : Rd w .i64 A1 c1 l) (_ : ¬ x.length = 1) (hp : IndPre x l ks e)
    (HK : ∀ w', Up w w' → Hid (Calls Try.prog 58 #[.slice A0 x.length c0] w' (KdPost x w'))) :
    Calls Try.prog 42 #[.slice A0 x.length c0, .slice A1 l.length c1] w (Ret1 w (Ind.ind x (l.map Int.toNat))) := by
  have hpos : 0 < l.length := List.length_pos_iff.2 hp.2.2.2.1.2.1
  obtain ⟨b, o, rfl⟩ := h0.plain hp.codes.pos
  obtain ⟨b1, o1, rfl⟩ := h1.plain hpos
  obtain ⟨t1, t2, t3⟩ := hp.codes.top
  have hb1 : b1 < w.heap.size := World.block_lt_of_cell? w ((⟨b1, o1, none⟩ : Addr).add 0) (h1.cell _ rfl 0 hpos)
  have hfs := hp.2.2.2.1
  have hl : (l.map Int.toNat).length = l.length := by simp
  have h1' := h1
  rw [hfs.nat] at h1'
  have := induced_calls b o c0 x b1 o1 c1 (l.map Int.toNat) w h0 hp.1 hp.codes.len (topM x) (Lib.hid t1) t2 (Lib.hid t3) (Lib.hid hp.tx) h1' hb1 (by rw [hl]; exact hfs.1) (Lib.hid hfs.nodup) (Lib.hid hfs.mem) HK
  rw [hl] at this
  refine this.mono fun en w' ⟨O, he, hO, hbl, hu⟩ => ?_
  have hok := Ind.ind_ok hp.tx hp.1 hfs.nodup hfs.mem
  have hlen := hp.codes.len
  refine ⟨_, he, Own.of_cells hbl hO hok.len.symm (by rw [hok.len]; omega) fun z hz => ?_, hu⟩
  obtain ⟨s, hs, rfl⟩ := List.mem_iff_getElem.1 hz
  rw [hok.len] at hs
  obtain ⟨i, hi, e1, _⟩ := hok.all s hs
  have : (Ind.ind x (l.map Int.toNat))[s] = (i : Int) := by
    rw [← e1, List.getD_eq_getElem?_getD, List.getElem?_eq_getElem (by rw [hok.len]; exact hs)]
    rfl
  rw [this]
  exact InK.of_i64 (by omega) (by omega)
end Go.Proofs.Ytmmacpicbonhhaa
