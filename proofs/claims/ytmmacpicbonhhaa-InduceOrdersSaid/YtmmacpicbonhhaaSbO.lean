/- The order that is induced of first Ss, in whatever order: names of pieces. -/
import Derived.Test.YtmmacpicbonhhaaSbN
import Derived.Test.YtmmacpicbonhhaaSbM
namespace Go.Proofs.Ytmmacpicbonhhaa.SalPure
open Go.RowKit Go.Proofs.Ytmmacpicbonhhaa Go.Proofs.Ytmmacpicbonhhaa.PSal Go.Proofs.YtmmacpicbonhhaaW.PrintWords Go.Proofs.YtmmacpicbonhhaaW.PrintMore
set_option maxRecDepth 100000
set_option linter.unusedVariables false

theorem good_indL {x l : List Int} (hx : Txt x) (hb : x.length ≤ 65536) (hp : l.Perm (firstsL x)) : Good (indL x l) := by
  obtain ⟨hl, hw⟩ := indL_wf hx hb hp
  refine ⟨?_, fun z hz => by rw [hl]; exact hw z hz⟩
  unfold indL
  by_cases h1 : x.length = 1
  · rw [if_pos h1]; simp
  · rw [if_neg h1]
    have h2 : 2 ≤ x.length := by have := hx.pos; omega
    have hfs := fsP_of hx hb h2 hp
    obtain ⟨l', e, hpm, _⟩ := Ind.order_list (Ind.ind_ok (tx_of hx) h2 hfs.nodup hfs.mem)
    rw [e, List.nodup_iff_pairwise_ne, List.pairwise_map]
    have hn := hpm.nodup_iff.2 List.nodup_range
    rw [List.nodup_iff_pairwise_ne] at hn
    exact hn.imp fun h e => h (Int.ofNat.inj e)
theorem namesG {x y : List Int} (hx : Txt x) (hb : x.length ≤ 65536) (hg : Good y) (hl : y.length = x.length) : Ev (fun k => induce_Names.f k x y) (nmsL x (firstsN x) y, ((nmAll x (firstsN x) y).n : Int), 0) := by
  have hck := check x hb (txt_wf hx)
  rw [(txt_iff x).2 hx] at hck
  have ht : turnedR y = (outOf y.length y, 0) := by unfold turnedR; rw [if_pos hg]
  unfold induce_Names.f
  refine Ev.bind hck ?_
  simp only [if_true]
  refine Ev.bind (turned y (by omega)) ?_
  rw [ht]
  simp only [if_true, if_pos (show (y.length : Int) = (x.length : Int) by omega)]
  exact Ev.bind (named hx hb y (fun z hz => by have := hg.2 z hz; exact (InK.of_i64 (x := z) (by omega) (by omega)).1) (by omega)) (Ev.now _)
theorem c_names {x y : List Int} (hx : Txt x) (hb : x.length ≤ 65536) (hg : Good y) (hl : y.length = x.length) (A : Option Addr) (c : Nat) (B : Option Addr) (d : Nat) (w : World) (h : Rd w .i64 A c x) (h' : Rd w .i64 B d y) :
    Calls Try.prog 15 #[.slice A x.length c, .slice B y.length d] w fun e w' => ∃ v, e = .returned (.tuple #[v, .int .i64 (nmAll x (firstsN x) y).n, .int .i64 0]) ∧ Own w' w.heap.size 3 .i64 v (nmsL x (firstsN x) y) ∧ Up w w' := by
  obtain ⟨k, e⟩ := Ev.rounds (namesG hx hb hg hl)
  exact (induce_Names.calls k A c x B d y _ _ _ w (kd_of_rd h) h.le (kd_of_rd h') h'.le e).mono fun _ _ ⟨v, he, hv, hu⟩ => ⟨v, he, own_of_kd hv (fun z hz => by have := nmsC_rng x (firstsN x) y z hz; exact InK.of_i64 (by omega) (by omega)), ⟨hu⟩⟩

/-- Names lie close: below each but 0 there is another. -/
theorem go_dense (x : List Int) (f : List Nat) : ∀ (q : List Nat) (n b : Nat), ∀ e ∈ Ind.nameGo x f q n (some b), e.2 = n ∨ e.2 = n + 1 ∨ ∃ e' ∈ Ind.nameGo x f q n (some b), e'.2 + 1 = e.2
  | [], _, _, e, h => by simp [Ind.nameGo] at h
  | a :: r, n, b, e, h => by
    rw [Ind.nameGo] at h ⊢
    split at h
    · next hp =>
      rw [if_pos hp]
      rcases List.mem_cons.1 h with rfl | h
      · exact .inl rfl
      · rcases go_dense x f r n a e h with h1 | h1 | ⟨e', h1, h2⟩
        · exact .inl h1
        · exact .inr (.inl h1)
        · exact .inr (.inr ⟨e', List.mem_cons_of_mem _ h1, h2⟩)
    · next hp =>
      rw [if_neg hp]
      rcases List.mem_cons.1 h with rfl | h
      · exact .inr (.inl rfl)
      · rcases go_dense x f r (n + 1) a e h with h1 | h1 | ⟨e', h1, h2⟩
        · exact .inr (.inl h1)
        · exact .inr (.inr ⟨(a, n + 1), List.mem_cons_self, h1.symm⟩)
        · exact .inr (.inr ⟨e', List.mem_cons_of_mem _ h1, h2⟩)
theorem go_dense0 (x : List Int) (f q : List Nat) : ∀ e ∈ Ind.nameGo x f q 0 none, e.2 = 0 ∨ ∃ e' ∈ Ind.nameGo x f q 0 none, e'.2 + 1 = e.2 := by
  intro e h
  cases q with
  | nil => simp [Ind.nameGo] at h
  | cons a r =>
    rw [Ind.nameGo] at h ⊢
    rcases List.mem_cons.1 h with rfl | h
    · exact .inl rfl
    · rcases go_dense x f r 0 a e h with h1 | h1 | ⟨e', h1, h2⟩
      · exact .inl h1
      · exact .inr ⟨(a, 0), List.mem_cons_self, h1.symm⟩
      · exact .inr ⟨e', List.mem_cons_of_mem _ h1, h2⟩
theorem nmsL_go {x : List Int} {f : List Nat} {o : List Int} (hnd : (ixs f o).Nodup) : ∀ e ∈ Ind.nameGo x f (ixs f o) 0 none, e.1 < f.length ∧ (nmsL x f o).getD e.1 0 = (e.2 : Int) := fun e he => by
  have h3 := (nm_go x f o ⟨0, [], fun _ => none⟩ 0 none ⟨rfl, rfl⟩ hnd).1 e he
  have h4 := ixs_lt e.1 (go_keys x f _ 0 none e he)
  refine ⟨h4, ?_⟩
  unfold nmsL
  rw [List.getD_eq_getElem?_getD, List.getElem?_map, List.getElem?_eq_getElem h4, Option.map_some, Option.getD_some]
  have h5 : f.getD e.1 0 = f[e.1] := by rw [List.getD_eq_getElem?_getD, List.getElem?_eq_getElem h4]; rfl
  rw [h5] at h3
  show ((nmAll x f o).nm (f[e.1] : Int)).getD 0 = _
  unfold nmAll
  rw [h3]
  rfl
/-- What names are. -/
structure Nm (x : List Int) (f : List Nat) (r : List Int) : Prop where
  nd : Ind.Named x f r
  lo : ∀ a, a < f.length → 0 ≤ r.getD a 0
  dn : ∀ a, a < f.length → r.getD a 0 = 0 ∨ ∃ b, b < f.length ∧ r.getD b 0 + 1 = r.getD a 0
theorem Nm.le {x : List Int} {f : List Nat} {r r' : List Int} (h : Nm x f r) (h' : Nm x f r') : ∀ n a : Nat, a < f.length → r.getD a 0 = (n : Int) → r.getD a 0 ≤ r'.getD a 0 := by
  intro n
  induction n with
  | zero => intro a ha e; have := h'.lo a ha; omega
  | succ n ih =>
    intro a ha e
    rcases h.dn a ha with h1 | ⟨b, hb, h1⟩
    · omega
    · have h2 := ih b hb (by omega)
      have h3 := (h.nd.lt b a hb ha).1 (by omega)
      have h4 := (h'.nd.lt b a hb ha).2 h3
      omega
theorem Nm.eq {x : List Int} {f : List Nat} {r r' : List Int} (h : Nm x f r) (h' : Nm x f r') : r = r' := by
  refine List.ext_getElem (by rw [h.nd.len, h'.nd.len]) fun a h1 h2 => ?_
  have ha : a < f.length := by rw [← h.nd.len]; exact h1
  have l1 := h.lo a ha
  have l2 := h'.lo a ha
  have e1 := h.le h' (r.getD a 0).toNat a ha (by omega)
  have e2 := h'.le h (r'.getD a 0).toNat a ha (by omega)
  have g1 : r.getD a 0 = r[a] := by rw [List.getD_eq_getElem?_getD, List.getElem?_eq_getElem h1]; rfl
  have g2 : r'.getD a 0 = r'[a] := by rw [List.getD_eq_getElem?_getD, List.getElem?_eq_getElem h2]; rfl
  omega
theorem nm_ind {x l : List Int} (hx : Txt x) (hb : x.length ≤ 65536) (h2 : 2 ≤ x.length) (hp : l.Perm (firstsL x)) : Nm x (firstsN x) (nmsL x (firstsN x) (indL x l)) := by
  have hfs := fsP_of hx hb h2 hp
  have e : indL x l = Ind.ind x (l.map Int.toNat) := by unfold indL; rw [if_neg (by omega)]
  rw [e]
  obtain ⟨hpm, hr⟩ := ixs_ind (tx_of hx) h2 (firsts_ok x) hfs.nodup hfs.mem
  have hgo := nmsL_go (x := x) (f := firstsN x) (o := Ind.ind x (l.map Int.toNat)) (hpm.nodup_iff.2 List.nodup_range)
  have hd := go_dense0 x (firstsN x) (ixs (firstsN x) (Ind.ind x (l.map Int.toNat)))
  have hfst := Ind.nameGo_fst x (firstsN x) (ixs (firstsN x) (Ind.ind x (l.map Int.toNat))) 0 none
  have find : ∀ a, a < (firstsN x).length → ∃ e ∈ Ind.nameGo x (firstsN x) (ixs (firstsN x) (Ind.ind x (l.map Int.toNat))) 0 none, e.1 = a := fun a ha => by
    have : a ∈ (Ind.nameGo x (firstsN x) (ixs (firstsN x) (Ind.ind x (l.map Int.toNat))) 0 none).map (·.1) := by rw [hfst]; exact hpm.mem_iff.2 (List.mem_range.2 ha)
    exact List.mem_map.1 this
  refine ⟨nmsL_named (tx_of hx) h2 (firsts_ok x) hfs.nodup hfs.mem, fun a ha => ?_, fun a ha => ?_⟩
  · obtain ⟨e, he, rfl⟩ := find a ha
    rw [(hgo e he).2]; omega
  · obtain ⟨e, he, rfl⟩ := find a ha
    rw [(hgo e he).2]
    rcases hd e he with h0 | ⟨e', he', h1⟩
    · exact .inl (by omega)
    · exact .inr ⟨e'.1, (hgo e' he').1, by rw [(hgo e' he').2]; omega⟩
theorem nms_same {x l : List Int} (hx : Txt x) (hb : x.length ≤ 65536) (hp : l.Perm (firstsL x)) : nmsL x (firstsN x) (indL x l) = red x := by
  by_cases h1 : x.length = 1
  · have e : ∀ l, indL x l = [0] := fun l => by unfold indL; rw [if_pos h1]
    unfold red
    rw [e, e]
  · have h2 : 2 ≤ x.length := by have := hx.pos; omega
    exact (nm_ind hx hb h2 hp).eq (nm_ind hx hb h2 (List.Perm.refl _))
theorem red_cmp {x : List Int} (hx : Txt x) (hb : x.length ≤ 65536) (a b : Nat) (ha : a < (firstsN x).length) (hb2 : b < (firstsN x).length) : (cmpV (Ind.pieceN x (firstsN x) a) (Ind.pieceN x (firstsN x) b) < 0 ↔ (red x).getD a 0 < (red x).getD b 0) := by
  have hh := Ind.Firsts.half (firsts_ok x)
  have h2 : 2 ≤ x.length := by omega
  rw [(cmpV_sign _ _).1, ← Ind.zc_piece (tx_of hx) h2 (firsts_ok x) ha hb2]
  exact ((nm_ind hx hb h2 (List.Perm.refl (firstsL x))).nd.lt a b ha hb2).symm
end Go.Proofs.Ytmmacpicbonhhaa.SalPure
