/- Several texts in one: SbP, SbC, SbW, SbK. -/
import Derived.Test.YtmmacpicbonhhaaSalPure
import Derived.Test.YtmmacpicbonhhaaSaU
import Derived.WalkMore
import Derived.Deep.LoopGhost
/- Layer 17: the pure side: the levels and their orders. -/
namespace Go.Proofs.Ytmmacpicbonhhaa.SalPure
open Go.RowKit Go.Proofs.Ytmmacpicbonhhaa Go.Proofs.Ytmmacpicbonhhaa.PSal Go.Proofs.YtmmacpicbonhhaaW.PrintWords Go.Proofs.YtmmacpicbonhhaaW.PrintMore
set_option linter.unusedVariables false

/-- The reduced text; the first Ss, ordered so. -/
def red (x : List Int) : List Int := nmsL x (firstsN x) (indL x (firstsL x))
def bk (x o : List Int) : List Int := o.map fun z => (firstsL x).getD z.toNat 0
theorem red_lenN (x : List Int) : (red x).length = (firstsN x).length := nmsL_len _ _ _
theorem red_len (x : List Int) : (red x).length = (firstsL x).length := by rw [red_lenN, firstsN_I, List.length_map]
theorem red_half (x : List Int) : 2 * (red x).length ≤ x.length := by
  rw [red_lenN]
  exact Ind.Firsts.half (firsts_ok x)
theorem red_named {x : List Int} (hx : Txt x) (hb : x.length ≤ 65535) (h2 : 2 ≤ x.length) : Ind.Named x (firstsN x) (red x) := by
  have hfs := fsP_of hx (by omega) h2 (List.Perm.refl (firstsL x))
  unfold red indL
  rw [if_neg (by omega)]
  exact nmsL_named (tx_of hx) h2 (firsts_ok x) hfs.nodup hfs.mem
theorem red_txt {x : List Int} (hx : Txt x) (hb : x.length ≤ 65535) (h : 2 ≤ (red x).length) : Txt (red x) := by
  have hh := red_half x
  obtain ⟨h1, _⟩ := indL_wf hx (by omega) (List.Perm.refl (firstsL x))
  exact txt_named (Ind.Named.tx (tx_of hx) (by omega) (firsts_ok x) (red_named hx hb (by omega))) (nmsL_rng _ _ _ (by omega))
def bkN (x : List Int) : List Nat := (sortN (red x) (red x).length).map fun a => (firstsN x).getD a 0
theorem sortN_in (x : List Int) : ∀ a ∈ sortN (red x) (red x).length, a < (firstsN x).length := fun a ha => by
  have := List.mem_range.1 ((sortN_perm _ _).mem_iff.1 ha)
  have := red_lenN x
  omega
theorem bk_N (x : List Int) : bk x (sortS (red x)) = (bkN x).map Int.ofNat := by
  unfold bk bkN sortS
  rw [List.map_map, List.map_map]
  refine List.map_congr_left fun a ha => ?_
  have ha2 := sortN_in x a ha
  show (firstsL x).getD a 0 = ((firstsN x).getD a 0 : Int)
  rw [firstsN_I]
  simp [List.getD_eq_getElem?_getD, ha2]
theorem bkN_perm (x : List Int) : (bkN x).Perm (firstsN x) := by
  have h : ((List.range (red x).length).map fun a => (firstsN x).getD a 0) = firstsN x := by
    rw [red_lenN]
    refine List.ext_getElem (by simp) fun i h1 h2 => by simp [List.getD_eq_getElem?_getD, h2]
  have := (sortN_perm (red x) (red x).length).map fun a => (firstsN x).getD a 0
  rw [h] at this
  exact this
theorem bk_perm (x : List Int) : (bk x (sortS (red x))).Perm (firstsL x) := by
  rw [bk_N, firstsN_I]
  exact (bkN_perm x).map _
theorem bk_ind {x : List Int} (hx : Txt x) (hb : x.length ≤ 65535) (h : 2 ≤ (red x).length) : indL x (bk x (sortS (red x))) = sortS x := by
  have hh := red_half x
  have h2 : 2 ≤ x.length := by omega
  unfold indL
  rw [if_neg (by omega), bk_N, List.map_map]
  rw [List.map_congr_left (g := id) fun i _ => by simp, List.map_id]
  refine Ind.ind_sorted (tx_of hx) h2 (fun i => by rw [(bkN_perm x).mem_iff]; exact mem_firstsN x i) ?_
  exact Ind.Named.back (tx_of hx) h2 (firsts_ok x) (red_named hx hb h2) (sortN_rises _ _ (Nat.le_refl _)) (sortN_in x)
theorem last_ind {x : List Int} (hx : Txt x) (hb : x.length ≤ 65536) (h : (red x).length < 2) : indL x (firstsL x) = sortS x := by
  have h1 := sel_ind hx hb
  have hp := sel_perm x
  have : sel (firstsL x) (sortS x) = firstsL x := by
    rw [red_len] at h
    generalize sel (firstsL x) (sortS x) = s at hp
    cases hf : firstsL x with
    | nil => rw [hf] at hp; exact List.perm_nil.1 hp
    | cons a t =>
      have ht : t = [] := by rw [hf, List.length_cons] at h; exact List.eq_nil_of_length_eq_zero (by omega)
      subst ht
      rw [hf] at hp
      exact List.perm_singleton.1 hp
  rwa [this] at h1

/-! ### unlike ones -/
theorem countP_lt : ∀ (l : List Int), l.Pairwise (· < ·) → ∀ p, p < l.length → l.countP (fun y => decide (y < l.getD p 0)) = p
  | [], _, p, h => by simp at h
  | a :: t, hp, 0, _ => by
    rw [List.pairwise_cons] at hp
    rw [List.countP_eq_zero]
    intro y hy
    rw [List.getD_cons_zero]
    rcases List.mem_cons.1 hy with rfl | hy
    · simp
    · have := hp.1 y hy; simp; omega
  | a :: t, hp, p + 1, h => by
    rw [List.pairwise_cons] at hp
    rw [List.getD_cons_succ, List.countP_cons, countP_lt t hp.2 p (by simpa using h), if_pos]
    have hpt : p < t.length := by simpa using h
    have := hp.1 (t.getD p 0) (getD_mem t p 0 hpt)
    simpa using this
theorem cmp_nodup {x : List Int} (hn : x.Nodup) {a b : Nat} (ha : a < x.length) (hb : b < x.length) (hc : cmpS x a b < 0) : x.getD a 0 < x.getD b 0 := by
  have hne : a ≠ b := fun e => by rw [e, cmpS_self] at hc; omega
  rw [cmpS_step x a b ha hb] at hc
  by_cases h1 : x.getD a 0 < x.getD b 0
  · exact h1
  · rw [if_neg h1] at hc
    by_cases h2 : x.getD b 0 < x.getD a 0
    · rw [if_pos h2] at hc; omega
    · have e : x.getD a 0 = x.getD b 0 := by omega
      rw [getD_lt _ _ _ ha, getD_lt _ _ _ hb] at e
      have := List.pairwise_iff_getElem.1 hn
      rcases Nat.lt_or_gt_of_ne hne with h | h
      · exact absurd e (this a b ha hb h)
      · exact absurd e.symm (this b a hb ha h)
theorem rank_out {x : List Int} (hn : x.Nodup) : rankL x = outOf (sortS x).length (sortS x) := by
  have hl := sortS_len x
  have hg := sortS_good x
  refine List.ext_getElem (by rw [rankL_len, outOf_len, hl]) fun i h1 h2 => ?_
  rw [rankL_len] at h1
  have e2 := outOf_good hg i (by rw [hl]; exact h1)
  rw [getD_lt _ _ _ h2] at e2
  have e3 : (rankL x)[i]'(by rw [rankL_len]; exact h1) = ((sorted x).countP (fun y => decide (y < x[i])) : Int) := by simp [rankL]
  rw [e2, e3]
  -- the values along the order
  have hperm : ((sortN x x.length).map fun a => x.getD a 0).Perm x := by
    have h : ((List.range x.length).map fun a => x.getD a 0) = x := by
      refine List.ext_getElem (by simp) fun j h3 h4 => by simp [List.getD_eq_getElem?_getD, h4]
    have := (sortN_perm x x.length).map fun a => x.getD a 0
    rwa [h] at this
  have hinc : ((sortN x x.length).map fun a => x.getD a 0).Pairwise (· < ·) := by
    rw [List.pairwise_map]
    refine (sortN_rises x x.length (Nat.le_refl _)).imp_of_mem fun ha hb hc => ?_
    exact cmp_nodup hn (List.mem_range.1 ((sortN_perm x x.length).mem_iff.1 ha)) (List.mem_range.1 ((sortN_perm x x.length).mem_iff.1 hb)) hc
  have hmem : i ∈ sortN x x.length := (sortN_perm x x.length).mem_iff.2 (List.mem_range.2 h1)
  have hp := List.idxOf_lt_length_iff.2 hmem
  have hidx : (sortS x).idxOf (i : Int) = (sortN x x.length).idxOf i := idxOf_map_nat _ _
  have hc := countP_lt _ hinc ((sortN x x.length).idxOf i) (by rw [List.length_map]; exact hp)
  have hv : ((sortN x x.length).map fun a => x.getD a 0).getD ((sortN x x.length).idxOf i) 0 = x[i] := by
    rw [getD_lt _ _ _ (by rw [List.length_map]; exact hp), List.getElem_map, List.getElem_idxOf hp, getD_lt _ _ _ h1]
  rw [hv] at hc
  have hs : (sorted x).Perm x := List.mergeSort_perm x _
  rw [hidx, hs.countP_eq, ← hperm.countP_eq]
  exact congrArg Int.ofNat hc
theorem rank_good {x : List Int} (hn : x.Nodup) : turnedR (rankL x) = (sortS x, 0) := by
  have hg := sortS_good x
  have hl := sortS_len x
  rw [rank_out hn]
  unfold turnedR
  rw [if_pos (good_turned hg), outOf_len, turned_twice hg]

/-! ### the levels -/
/-- The text so many levels down. -/
def lv (x : List Int) : Nat → List Int
  | 0 => x
  | k + 1 => red (lv x k)
/-- There is a level below. -/
def more (x : List Int) : Bool := !decide x.Nodup && !decide ((red x).length < 2)
theorem lv_len (x : List Int) : ∀ k, (lv x k).length ≤ x.length
  | 0 => Nat.le_refl _
  | k + 1 => by
    have := red_half (lv x k)
    have := lv_len x k
    show (red (lv x k)).length ≤ _
    omega
theorem lv_txt {x : List Int} (hx : Txt x) (hb : x.length ≤ 65535) : ∀ d, (∀ k, k < d → more (lv x k) = true) → Txt (lv x d)
  | 0, _ => hx
  | d + 1, h => by
    have h1 := lv_txt hx hb d fun k hk => h k (by omega)
    have h2 := h d (by omega)
    have h3 := lv_len x d
    unfold more at h2
    simp at h2
    exact red_txt h1 (by omega) h2.2
theorem lv_down {x : List Int} : ∀ d, (∀ k, k < d → more (lv x k) = true) → d + (lv x d).length ≤ x.length
  | 0, _ => by show 0 + x.length ≤ _; omega
  | d + 1, h => by
    have h1 := lv_down d fun k hk => h k (by omega)
    have h2 := h d (by omega)
    unfold more at h2
    simp at h2
    have := red_half (lv x d)
    show d + 1 + (red (lv x d)).length ≤ _
    omega
/-- The levels down to one. -/
def lvs (x : List Int) (d : Nat) : List (List Int) := (List.range (d + 1)).map (lv x)
theorem lvs_len (x : List Int) (d : Nat) : (lvs x d).length = d + 1 := by simp [lvs]
theorem lvs_succ (x : List Int) (d : Nat) : lvs x (d + 1) = lvs x d ++ [lv x (d + 1)] := by
  unfold lvs
  rw [List.range_succ, List.map_append]
  rfl
theorem lvs_get (x : List Int) (d k : Nat) (h : k ≤ d) : (lvs x d).getD k [] = lv x k := by
  unfold lvs
  simp [List.getD_eq_getElem?_getD, show k < d + 1 by omega]
end Go.Proofs.Ytmmacpicbonhhaa.SalPure

/- Layer 17: what the functions of layers 15 and 16 do, as calls. -/
namespace Go.Proofs.Ytmmacpicbonhhaa.SalPure
open Go.RowKit Go.Proofs.Ytmmacpicbonhhaa Go.Proofs.Ytmmacpicbonhhaa.PSal Go.Proofs.YtmmacpicbonhhaaW.PrintWords Go.Proofs.YtmmacpicbonhhaaW.PrintMore
set_option linter.unusedVariables false

theorem red_wf {x : List Int} (hx : Txt x) (hb : x.length ≤ 65535) : ∀ z ∈ red x, InK .i64 z := fun z hz => by
  obtain ⟨h1, _⟩ := indL_wf hx (by omega) (List.Perm.refl (firstsL x))
  have := nmsL_rng _ _ _ (by omega) z hz
  exact InK.of_i64 (by omega) (by omega)
theorem c_red {x : List Int} (hx : Txt x) (hb : x.length ≤ 65535) (A : Option Addr) (c : Nat) (w : World) (h : Rd w .i64 A c x) :
    Calls Try.prog 19 #[.slice A x.length c] w (Ret2 w (red x) 0) := by
  obtain ⟨k, e⟩ := Ev.rounds (reduced hx (by omega))
  exact (induce_Reduced.calls k A c x _ _ w (kd_of_rd h) h.le e).mono fun _ _ ⟨v, he, hv, hu⟩ => ⟨v, he, own_of_kd hv (red_wf hx hb), ⟨hu⟩⟩
theorem firstsL_in {x : List Int} (hb : x.length ≤ 65536) : ∀ z ∈ firstsL x, InK .i64 z := fun z hz => ⟨firstsL_wf x hb z hz⟩
theorem c_firsts {x : List Int} (hx : Txt x) (hb : x.length ≤ 65536) (A : Option Addr) (c : Nat) (w : World) (h : Rd w .i64 A c x) :
    Calls Try.prog 38 #[.slice A x.length c] w (Ret2 w (firstsL x) 0) := by
  have ev := firsts x hb (txt_wf hx)
  rw [if_pos hx] at ev
  obtain ⟨k, e⟩ := Ev.rounds ev
  exact (suffix_Firsts.calls k A c x _ _ w (kd_of_rd h) h.le e).mono fun _ _ ⟨v, he, hv, hu⟩ => ⟨v, he, own_of_kd hv (firstsL_in hb), ⟨hu⟩⟩
theorem bk_wf {x o : List Int} (hb : x.length ≤ 65536) : ∀ z ∈ bk x o, InK .i64 z := fun z hz => by
  obtain ⟨a, _, rfl⟩ := List.mem_map.1 hz
  by_cases h : a.toNat < (firstsL x).length
  · exact firstsL_in hb _ (getD_mem _ _ _ h)
  · show InK .i64 ((firstsL x).getD a.toNat 0)
    rw [List.getD_eq_getElem?_getD, List.getElem?_eq_none (by omega)]
    exact InK.of_i64 (by decide) (by decide)
theorem c_back {x o : List Int} (hx : Txt x) (hb : x.length ≤ 65536) (hg : Good o) (hl : o.length = (firstsL x).length) (A : Option Addr) (c : Nat) (B : Option Addr) (d : Nat) (w : World) (h : Rd w .i64 A c x) (h' : Rd w .i64 B d o) :
    Calls Try.prog 53 #[.slice A x.length c, .slice B o.length d] w (Ret2 w (bk x o) 0) := by
  obtain ⟨k, e⟩ := Ev.rounds (back hx hb hg hl)
  exact (induce_Back.calls k A c x B d o _ _ w (kd_of_rd h) h.le (kd_of_rd h') h'.le e).mono fun _ _ ⟨v, he, hv, hu⟩ => ⟨v, he, own_of_kd hv (bk_wf hb), ⟨hu⟩⟩
theorem c_ind {x l : List Int} (hx : Txt x) (hb : x.length ≤ 65536) (hp : l.Perm (firstsL x)) (A : Option Addr) (c : Nat) (B : Option Addr) (d : Nat) (w : World) (h : Rd w .i64 A c x) (h' : Rd w .i64 B d l) :
    Calls Try.prog 12 #[.slice A x.length c, .slice B l.length d] w (Ret2 w (indL x l) 0) := by
  obtain ⟨k, e⟩ := Ev.rounds (induce hx hb hp)
  exact (induce_Induce.calls k A c x B d l _ _ w (kd_of_rd h) h.le (kd_of_rd h') h'.le e).mono fun _ _ ⟨v, he, hv, hu⟩ => ⟨v, he, own_of_kd hv (fun z hz => by have := (indL_wf hx hb hp).2 z hz; exact InK.of_i64 (by omega) (by omega)), ⟨hu⟩⟩
theorem outOf_wf (l : List Int) (n : Nat) (hb : l.length < 1000000) : ∀ z ∈ outOf n l, InK .i64 z := fun z hz => by
  unfold outOf at hz
  obtain ⟨v, _, rfl⟩ := List.mem_map.1 hz
  split
  · have := List.idxOf_le_length (a := (v : Int)) (l := l)
    exact InK.of_i64 (by omega) (by omega)
  · exact InK.of_i64 (by decide) (by decide)
theorem c_turned (l : List Int) (hb : l.length < 1000000) (A : Option Addr) (c : Nat) (w : World) (h : Rd w .i64 A c l) :
    Calls Try.prog 46 #[.slice A l.length c] w (Ret2 w (turnedR l).1 (turnedR l).2) := by
  obtain ⟨k, e⟩ := Ev.rounds (turned l hb)
  exact (suffix_Turned.calls k A c l _ _ w (kd_of_rd h) h.le e).mono fun _ _ ⟨v, he, hv, hu⟩ => ⟨v, he, own_of_kd hv (by
    unfold turnedR
    split
    · exact outOf_wf l _ hb
    · exact fun z hz => absurd hz (by simp)), ⟨hu⟩⟩
theorem c_check (l : List Int) (hb : l.length ≤ 65536) (A : Option Addr) (c : Nat) (w : World) (h : Rd w .i64 A c l) :
    Calls Try.prog 45 #[.slice A l.length c] w fun en w' => en = .returned (.int .i64 (chk l)) ∧ ∃ q, w' = w.drewN q := by
  obtain ⟨k, e⟩ := Ev.rounds (check l hb fun z hz => (h.wf z hz).1)
  exact (suffix_Check.calls k A c l _ w (kd_of_rd h) h.le e).mono fun _ _ h => ⟨h.1, h.2.out⟩
theorem sortS_wf (x : List Int) (hb : x.length ≤ 65536) : ∀ z ∈ sortS x, InK .i64 z := fun z hz => by
  obtain ⟨i, rfl, hi⟩ := (mem_sortS x z).1 hz
  exact InK.of_i64 (by omega) (by omega)
theorem c_same (x y : List Int) (hb : x.length < 1000000) (A : Option Addr) (c : Nat) (B : Option Addr) (d : Nat) (w : World) (h : Rd w .i64 A c x) (h' : Rd w .i64 B d y) :
    Calls Try.prog 13 #[.slice A x.length c, .slice B y.length d] w fun en w' => en = .returned (.bool (decide (x = y))) ∧ ∃ q, w' = w.drewN q := by
  obtain ⟨k, e⟩ := Ev.rounds (same6 x y (by omega))
  exact (incipitref06_Same.calls k A c x B d y _ w (kd_of_rd h) h.le (kd_of_rd h') h'.le e).mono fun _ _ h => ⟨h.1, h.2.out⟩
theorem c_text (l : List Int) (a : Int) : ∃ x, Txt x ∧ x.length ≤ 121 ∧ ∀ A c w, Rd w .i64 A c l → InK .i64 a →
    Calls Try.prog 9 #[.slice A l.length c, .int .i64 a] w (Ret1 w x) := by
  obtain ⟨x, ev, hx, hl⟩ := text l a
  obtain ⟨k, e⟩ := Ev.rounds ev
  exact ⟨x, hx, hl, fun A c w h ha => (incipitlaw15_Text.calls k A c l a _ w (kd_of_rd h) h.le e).mono fun _ _ ⟨v, he, hv, hu⟩ => ⟨v, he, own_of_kd hv (fun z hz => ⟨txt_wf hx z hz⟩), ⟨hu⟩⟩⟩
end Go.Proofs.Ytmmacpicbonhhaa.SalPure

/- The walks of sais' stack: top, down, last. -/
namespace Go.Proofs.Ytmmacpicbonhhaa.SalPure
open Go.RowKit Go.Proofs.Ytmmacpicbonhhaa
set_option maxRecDepth 100000
set_option linter.unusedVariables false

theorem top_calls (ad : Addr) (n c : Nat) (v : Value) (w : World) (hn : n ≤ 65536) (hc : w.cell? (ad.add n) = some v) :
    Calls Try.prog 54 #[.slice (some ad) (n + 1 : Nat) c] w fun e w' => e = .returned v ∧ w' = w := by
  go_enter Try.func54, Try.ntmps54
  go_wp2_with fail
  go_ret
  exact ⟨rfl, rfl⟩

/-- A literal of one slice. -/
theorem OwnL.lit1 (w : World) (b0 base e q : Nat) (v : Value) (xs : List Int) (hx : Own w b0 q .i64 v xs) (hb : base ≤ w.heap.size) :
    OwnL (w.alloc (.cells #[v] e)) base e q .i64 w.heap.size (.slice (some ⟨w.heap.size, 0, none⟩) 1 1) [xs] := by
  have hu : Up w (w.alloc (.cells #[v] e)) := (Up.refl w).alloc _
  obtain ⟨A, c, rfl, hr⟩ := hx.rd
  refine ⟨[.slice A xs.length c], ⟨⟨rfl, .inr ⟨w.heap.size, 1, _, rfl, hb, heap_alloc_new w _, Nat.le_refl _, by simp [maxLen], by simp, by simp⟩⟩⟩, ?_⟩
  have h0 := (Vals.nil (fun b => b < w.heap.size ∧ Typed (w.alloc (.cells #[.slice A xs.length c] e)) q b) (w.alloc (.cells #[.slice A xs.length c] e)) .i64).snoc (hr.up hu) rfl fun ad e' hp => ?_
  · simpa using h0
  · have hob : (Value.slice A xs.length c).ownBlock = some ad.block := by
      subst e'
      rcases hx.row.2 with ⟨h0, _⟩ | ⟨g, cap, cur, h0, _⟩
      · cases h0
      · simp only [Value.slice.injEq, Option.some.injEq] at h0
        obtain ⟨rfl, _⟩ := h0
        rfl
    exact ⟨(hx.lt _ hob).2, (hx.typed _ hob).up hu⟩

def lenOf : Value → Nat
  | .slice _ n _ => n
  | _ => 0
theorem more_bits {x : List Int} (h : decide x.Nodup = false) : more x = !decide ((red x).length < 2) := by unfold more; rw [h]; rfl

theorem infoInts8 : (Try.prog.info? 22).map (fun i => (i.zero, i.size, i.bytes)) = some (some (.slice none 0 0), 1, 24) := by kernel_rfl

set_option maxHeartbeats 4000000 in
theorem down_calls {x : List Int} (hx : Txt x) (hb : x.length ≤ 65535) (A : Option Addr) (c : Nat) (w : World) (h1 : Rd w .i64 A c x) :
    Calls Try.prog 51 #[.slice A x.length c] w fun e w' => ∃ v d, e = .returned v ∧ OwnL w' w.heap.size 22 3 .i64 w'.heap.size v (lvs x d) ∧ Up w w' ∧ (∀ k, k < d → more (lv x k) = true) ∧ more (lv x d) = false := by
  go_enter Try.func51, Try.ntmps51
  go_wp2_with fail
  go_step3
  go_wp2_with fail
  refine (cloneInts_calls A c c x w h1 (by omega)).mono ?_
  rintro en w1 ⟨v1, rfl, hv1, hu1⟩
  have hl1 := OwnL.lit1 w1 w.heap.size w.heap.size 22 3 v1 x hv1 hu1.size
  have hua : Up w1 (w1.alloc (.cells #[v1] 22)) := (Up.refl w1).alloc _
  have hsz : (w1.alloc (.cells #[v1] 22)).heap.size = w1.heap.size + 1 := by simp
  obtain ⟨A1, c1, rfl, hr1⟩ := hv1.rd
  clear hr1 hv1
  go_wp2_with fail
  go_step3
  go_wp2_with fail
  go_loopw [3, 4, 5] (fun s _ _ wr => ∃ d, OwnL wr w.heap.size 22 3 .i64 wr.heap.size s (lvs x d) ∧ Up w wr ∧ ∀ k, k < d → more (lv x k) = true) (fun s _ _ _ => x.length + 1 - lenOf s)
  case atStart => exact ⟨0, hl1.mono (by omega), hu1.trans hua, fun k hk => absurd hk (by omega)⟩
  case round =>
    clear hl1 hua hsz hu1
    obtain ⟨d, hv, hu, hm⟩ := hrel
    have hdl := lv_down d hm
    have hT := lv_txt hx hb d hm
    have hpos := hT.pos
    obtain ⟨As, cs, rfl, hrl⟩ := hv.rd
    obtain ⟨ad, t, At, ct, rfl, hct, hrt, HT⟩ := hrl.get d (by rw [lvs_len]; omega)
    have ht := HT.out
    rw [lvs_get _ _ _ (Nat.le_refl d)] at ht
    have HM := Lib.hid hm
    have HMO := Lib.hid (show ∀ b, more t = b → more (lv x d) = b from fun b e => by rw [ht]; exact e)
    have HNX := Lib.hid (show lvs x (d + 1) = lvs x d ++ [red t] by rw [lvs_succ, ← ht]; rfl)
    rw [ht] at hT hdl hpos
    rw [lvs_len] at hv
    have HV := Lib.hid hv
    have hst := hv.lt
    clear hv hrl hm HT ht
    rw [lvs_len]
    go_wp2_with fail
    refine (top_calls ad d cs _ wr (by omega) hct).mono ?_
    rintro en w2 ⟨rfl, rfl⟩
    go_wp2_with fail
    refine (unlike_calls At ct t w2 hrt (by omega)).mono ?_
    rintro en w3 ⟨rfl, hu3⟩
    have hct3 := hu3.cell hct
    have hrt3 := hrt.up hu3
    have HV3 := Lib.hid (HV.out.up hu3)
    have hU := hu.trans hu3
    clear hct hrt HV hu
    cases hnd : decide t.Nodup with
    | true =>
      have HB := Lib.hid (HMO.out false (by unfold more; rw [hnd]; rfl))
      clear hnd
      go_wp2_with fail
      rw [Exit.noGoto_ret]
      go_ret
      exact ⟨_, d, rfl, HV3.out.mono hu3.size, hU, HM.out, HB.out⟩
    | false =>
      have HMB := Lib.hid (more_bits hnd)
      clear hnd
      go_wp2_with fail
      refine (top_calls ad d cs _ w3 (by omega) hct3).mono ?_
      rintro en w4 ⟨rfl, rfl⟩
      go_wp2_with fail
      refine (c_red hT (by omega) At ct w4 hrt3).mono ?_
      rintro en w5 ⟨v5, rfl, hv5, hu5⟩
      have hh := red_half t
      obtain ⟨A5, c5, rfl, hr5⟩ := hv5.rd
      have HV5 := Lib.hid (HV3.out.up hu5)
      by_cases h2 : (red t).length < 2
      · have HB := Lib.hid (HMO.out false (by rw [HMB.out, decide_eq_true h2]; rfl))
        generalize red t = rt at *
        go_wp2_with fail
        rw [Exit.noGoto_ret]
        go_ret
        exact ⟨_, d, rfl, HV5.out.mono (Nat.le_trans hu3.size hu5.size), hU.trans hu5, HM.out, HB.out⟩
      · have HB := Lib.hid (HMO.out true (by rw [HMB.out, decide_eq_false h2]; rfl))
        generalize red t = rt at *
        have hz3 := hu3.size
        have hz5 := hu5.size
        have hzU := hU.size
        have HDN : Hid (∀ k, k < d + 1 → more (lv x k) = true) := Lib.hid fun k hk => by
          by_cases e : k = d
          · rw [e]; exact HB.out
          · exact HM.out k (by omega)
        go_wp2_with (refine wpl_pushL (t := 67) w.heap.size 22 3 .i64 w2.heap.size Try.underlying67 infoInts8 (by decide) _ (lvs x d) w4.heap.size _ rt rfl (fun _ => rfl) (fun _ => rfl) HV5.out hv5 (by omega) (by rw [lvs_len]; omega) (by omega) ?_; intro v6 w6 hv6 hu6; rw [← HNX.out] at hv6)
        have hU6 : Up w w6 := (hU.trans hu5).thenx hu6 fun i hi e => by have := (hst i e).1; omega
        have hz6 := hu6.size
        refine ⟨⟨d + 1, hv6.mono (by omega), hU6, HDN.out⟩, ?_⟩
        obtain ⟨A6, c6, e6, _⟩ := hv6.rd
        rw [lvs_len] at e6
        subst e6
        simp [lenOf]; omega

set_option maxHeartbeats 4000000 in
theorem last_calls {t : List Int} (hT : Txt t) (hb : t.length ≤ 65535) (hmo : more t = false) (ad : Addr) (d cs : Nat) (hd : d ≤ 65535) (At : Option Addr) (ct : Nat) (w : World) (hct : w.cell? (ad.add d) = some (.slice At t.length ct)) (hrt : Rd w .i64 At ct t) :
    Calls Try.prog 52 #[.slice (some ad) (d + 1 : Nat) cs] w (Ret1 w (sortS t)) := by
  have hpos := hT.pos
  go_enter Try.func52, Try.ntmps52
  go_wp2_with fail
  refine (top_calls ad d cs _ w (by omega) hct).mono ?_
  rintro en w2 ⟨rfl, rfl⟩
  go_wp2_with fail
  refine (unlike_calls At ct t w2 hrt (by omega)).mono ?_
  rintro en w3 ⟨rfl, hu3⟩
  have hrt3 := hrt.up hu3
  clear hct hrt
  cases hnd : decide t.Nodup with
  | true =>
    have HR := Lib.hid (rank_good (of_decide_eq_true hnd))
    clear hnd
    go_wp2_with fail
    refine (rank_calls At ct t w3 hrt3 hpos (by omega)).mono ?_
    rintro en w4 ⟨v4, rfl, hv4, hu4⟩
    obtain ⟨A4, c4, rfl, hr4⟩ := hv4.rd
    go_wp2_with fail
    have HTU := c_turned (rankL t) (by rw [rankL_len]; omega) A4 c4 w4 hr4
    rw [HR.out] at HTU
    refine HTU.mono ?_
    rintro en w5 ⟨v5, rfl, hv5, hu5⟩
    clear hv4 hr4 HTU
    go_wp2_with fail
    go_ret
    have h3 := hu3.size
    have h4 := hu4.size
    exact ⟨_, rfl, hv5.mono (by omega), (hu3.trans hu4).trans hu5⟩
  | false =>
    have hs : (red t).length < 2 := by
      unfold more at hmo
      rw [hnd] at hmo
      simpa using hmo
    have HI := Lib.hid (last_ind hT (by omega) hs)
    clear hnd hs hmo
    go_wp2_with fail
    refine (c_firsts hT (by omega) At ct w3 hrt3).mono ?_
    rintro en w4 ⟨v4, rfl, hv4, hu4⟩
    obtain ⟨A4, c4, rfl, hr4⟩ := hv4.rd
    go_wp2_with fail
    refine (c_ind hT (by omega) (List.Perm.refl _) At ct A4 c4 w4 (hrt3.up hu4) hr4).mono ?_
    rw [HI.out]
    rintro en w5 ⟨v5, rfl, hv5, hu5⟩
    clear hv4 hr4
    go_wp2_with fail
    go_ret
    have h3 := hu3.size
    have h4 := hu4.size
    exact ⟨_, rfl, hv5.mono (by omega), (hu3.trans hu4).trans hu5⟩

set_option maxHeartbeats 2000000 in
theorem order_bad (l : List Int) (hb : l.length ≤ 65536) (hc : chk l ≠ 0) (A : Option Addr) (c : Nat) (w : World) (h : Rd w .i64 A c l) :
    Calls Try.prog 21 #[.slice A l.length c] w (Ret2 w [] (chk l)) := by
  have HC := Lib.hid (c_check l hb A c w h)
  generalize chk l = n at *
  have hnb : (n != 0) = true := by simpa using hc
  go_enter Try.func21, Try.ntmps21
  go_wp2_with fail
  refine (HC.out).mono ?_
  rintro en w1 ⟨rfl, q, rfl⟩
  go_wp2_with fail
  go_ret2
  exact ⟨_, rfl, Own.nil _ _ _ _, (Up.refl w).drewN q⟩
set_option maxHeartbeats 4000000 in
theorem order_calls {x : List Int} (hx : Txt x) (hb : x.length ≤ 65535) (A : Option Addr) (c : Nat) (w : World) (h : Rd w .i64 A c x) :
    Calls Try.prog 21 #[.slice A x.length c] w (Ret2 w (sortS x) 0) := by
  have HC := Lib.hid (c_check x (by omega) A c w h)
  rw [(txt_iff x).2 hx] at HC
  go_enter Try.func21, Try.ntmps21
  go_wp2_with fail
  refine (HC.out).mono ?_
  rintro en w1 ⟨rfl, q, rfl⟩
  have hu1 := (Up.refl w).drewN q
  clear HC
  have h1 := h.up hu1
  generalize w.drewN q = w1 at *
  go_wp2_with fail
  refine (down_calls hx hb A c w1 h1).mono ?_
  rintro en w2 ⟨v, d, rfl, hv, hu2, hm, hmo⟩
  have hdl := lv_down d hm
  have HLT := Lib.hid fun k (hk : k ≤ d) => lv_txt hx hb k fun i hi => hm i (by omega)
  have HM := Lib.hid hm
  obtain ⟨As, cs, rfl, hrl⟩ := hv.rd
  obtain ⟨ad, t, At, ct, rfl, hct, hrt, HT⟩ := hrl.get d (by rw [lvs_len]; omega)
  have ht := HT.out
  rw [lvs_get _ _ _ (Nat.le_refl d)] at ht
  have hu := hu1.trans hu2
  have hT := HLT.out d (Nat.le_refl d)
  have htl := hT.pos
  have HST := Lib.hid (show sortS t = sortS (lv x d) by rw [ht])
  rw [ht] at hT hdl htl hmo
  have HRL := Lib.hid hrl
  have hcs : d + 1 ≤ cs := by have := hrl.le; rwa [lvs_len] at this
  clear hv hm HT ht hrl h1 hu1 hu2
  rw [lvs_len]
  go_wp2_with fail
  refine (last_calls hT (by omega) hmo ad d cs (by omega) At ct w2 hct hrt).mono ?_
  rintro en w3 ⟨v3, rfl, hv3, hu3⟩
  rw [HST.out] at hv3
  have hz := hu.size
  have hv3 := hv3.mono hz
  have HRL3 := Lib.hid (HRL.out.up hu3)
  have hU := hu.trans hu3
  clear hct hrt HST HRL
  go_wp2_with fail
  go_loopw [2, 3, 5, 6, 7, 8] (fun _ _ s o _ _ wr => ∃ j, j ≤ d ∧ s = .slice (some ad) (j + 1 : Nat) cs ∧ Own wr w.heap.size 3 .i64 o (sortS (lv x j)) ∧ Up w3 wr) (fun _ _ s _ _ _ _ => lenOf s)
  case atStart => exact ⟨d, Nat.le_refl d, rfl, hv3, Up.refl _⟩
  case round =>
    clear hv3
    obtain ⟨j, hj, rfl, ho, hu4⟩ := hrel
    obtain ⟨Ao, co, rfl, hro⟩ := ho.rd
    cases j with
    | zero =>
      have HO := Lib.hid ho
      have HU := Lib.hid (hU.trans hu4)
      clear ho hro
      go_wp2_with fail
      go_ret2
      exact ⟨_, rfl, HO.out, HU.out⟩
    | succ j =>
      obtain ⟨_, t', At', ct', e', hct, hrt, HT⟩ := (HRL3.out.up hu4).get j (by rw [lvs_len]; omega)
      cases e'
      have ht := HT.out
      rw [lvs_get _ _ _ (by omega)] at ht
      have hT := HLT.out j (by omega)
      have hle := lv_len x j
      have hmj := HM.out j (by omega)
      have HSO := Lib.hid (show sortS (lv x j) = sortS t' by rw [ht])
      rw [show lv x (j + 1) = red (lv x j) from rfl, ht] at ho hro
      rw [show lv x (j + 1) = red (lv x j) from rfl, ht] 
      rw [ht] at hT hle hmj
      have h2 : 2 ≤ (red t').length := by unfold more at hmj; simp at hmj; exact hmj.2
      have HBI := Lib.hid (bk_ind hT (by omega) h2)
      have HO := Lib.hid ho
      have HU := Lib.hid (hU.trans hu4)
      have hcs' : j + 1 ≤ cs := by omega
      clear ht HT ho hmj h2
      go_wp2_with fail
      refine (top_calls ad j cs _ wr (by omega) hct).mono ?_
      rintro en w5 ⟨rfl, rfl⟩
      go_wp2_with fail
      refine (c_back hT (by omega) (sortS_good _) (by rw [sortS_len, red_len]) At' ct' Ao co w5 hrt hro).mono ?_
      rintro en w6 ⟨v6, rfl, hv6, hu6⟩
      obtain ⟨A6, c6, rfl, hr6⟩ := hv6.rd
      have hct6 := hu6.cell hct
      have hrt6 := hrt.up hu6
      clear hv6 hct hrt hro HO
      go_wp2_with fail
      refine (top_calls ad j cs _ w6 (by omega) hct6).mono ?_
      rintro en w7 ⟨rfl, rfl⟩
      go_wp2_with fail
      refine (c_ind hT (by omega) (bk_perm t') At' ct' A6 c6 w7 hrt6 hr6).mono ?_
      rw [HBI.out, ← HSO.out]
      rintro en w8 ⟨v8, rfl, hv8, hu8⟩
      have hz8 := hu6.size
      have hzU := HU.out.size
      go_wp2_with fail
      refine ⟨⟨j, by omega, rfl, hv8.mono (by omega), (hu4.trans hu6).trans hu8⟩, ?_⟩
      simp [lenOf]

set_option maxHeartbeats 2000000 in
theorem levels_bad (l : List Int) (hb : l.length ≤ 65536) (hc : chk l ≠ 0) (A : Option Addr) (c : Nat) (w : World) (h : Rd w .i64 A c l) :
    Calls Try.prog 26 #[.slice A l.length c] w fun e w' => e = .returned (.tuple #[.slice none 0 0, .int .i64 (chk l)]) ∧ Up w w' := by
  have HC := Lib.hid (c_check l hb A c w h)
  generalize chk l = n at *
  have hnb : (n != 0) = true := by simpa using hc
  go_enter Try.func26, Try.ntmps26
  go_wp2_with fail
  refine (HC.out).mono ?_
  rintro en w1 ⟨rfl, q, rfl⟩
  go_wp2_with fail
  go_ret2
  exact ⟨rfl, (Up.refl w).drewN q⟩
set_option maxHeartbeats 2000000 in
theorem levels_calls {x : List Int} (hx : Txt x) (hb : x.length ≤ 65535) (A : Option Addr) (c : Nat) (w : World) (h : Rd w .i64 A c x) :
    Calls Try.prog 26 #[.slice A x.length c] w fun e w' => ∃ v d, e = .returned (.tuple #[v, .int .i64 0]) ∧ OwnL w' w.heap.size 22 3 .i64 w'.heap.size v (lvs x d) ∧ Up w w' ∧ (∀ k, k < d → more (lv x k) = true) ∧ more (lv x d) = false := by
  have HC := Lib.hid (c_check x (by omega) A c w h)
  rw [(txt_iff x).2 hx] at HC
  go_enter Try.func26, Try.ntmps26
  go_wp2_with fail
  refine (HC.out).mono ?_
  rintro en w1 ⟨rfl, q, rfl⟩
  have hu1 := (Up.refl w).drewN q
  clear HC
  have h1 := h.up hu1
  generalize w.drewN q = w1 at *
  go_wp2_with fail
  refine (down_calls hx hb A c w1 h1).mono ?_
  rintro en w2 ⟨v, d, rfl, hv, hu2, hm, hmo⟩
  have hz := hu1.size
  have HV := Lib.hid hv
  have HM := Lib.hid hm
  clear hv hm
  go_wp2_with fail
  go_ret2
  obtain ⟨vs, h3, h4⟩ := HV.out
  exact ⟨v, d, rfl, ⟨vs, h3.mono hz, h4⟩, hu1.trans hu2, HM.out, hmo⟩
set_option maxHeartbeats 2000000 in
theorem ranks_bad (l : List Int) (hb : l.length ≤ 65536) (hc : chk l ≠ 0) (A : Option Addr) (c : Nat) (w : World) (h : Rd w .i64 A c l) :
    Calls Try.prog 22 #[.slice A l.length c] w (Ret2 w [] (chk l)) := by
  have HC := Lib.hid (order_bad l hb hc A c w h)
  generalize chk l = n at *
  have hnb : (n != 0) = true := by simpa using hc
  go_enter Try.func22, Try.ntmps22
  go_wp2_with fail
  refine (HC.out).mono ?_
  rintro en w1 ⟨v1, rfl, hv1, hu1⟩
  go_wp2_with fail
  go_ret2
  exact ⟨_, rfl, Own.nil _ _ _ _, hu1⟩
set_option maxHeartbeats 2000000 in
theorem ranks_calls {x : List Int} (hx : Txt x) (hb : x.length ≤ 65535) (A : Option Addr) (c : Nat) (w : World) (h : Rd w .i64 A c x) :
    Calls Try.prog 22 #[.slice A x.length c] w (Ret2 w (outOf (sortS x).length (sortS x)) 0) := by
  have HT := Lib.hid (show turnedR (sortS x) = (outOf (sortS x).length (sortS x), 0) by unfold turnedR; rw [if_pos (sortS_good x)])
  go_enter Try.func22, Try.ntmps22
  go_wp2_with fail
  refine (order_calls hx hb A c w h).mono ?_
  rintro en w1 ⟨v1, rfl, hv1, hu1⟩
  obtain ⟨A1, c1, rfl, hr1⟩ := hv1.rd
  clear hv1
  go_wp2_with fail
  refine (c_turned (sortS x) (by rw [sortS_len]; omega) A1 c1 w1 hr1).mono ?_
  rw [HT.out]
  rintro en w2 ⟨v2, rfl, hv2, hu2⟩
  have hz := hu1.size
  go_wp2_with fail
  go_ret2
  exact ⟨_, rfl, hv2.mono hz, hu1.trans hu2⟩
end Go.Proofs.Ytmmacpicbonhhaa.SalPure

/- The walk of the laws' example of layer 17. -/
namespace Go.Proofs.Ytmmacpicbonhhaa.SalPure
open Go.RowKit Go.Proofs.Ytmmacpicbonhhaa
set_option maxRecDepth 100000
set_option linter.unusedVariables false

theorem small100 {l : List Int} (h : l.all (fun z => decide (0 ≤ z ∧ z < 100)) = true) : ∀ z ∈ l, InK .i64 z := fun z hz => by
  have := of_decide_eq_true (List.all_eq_true.1 h z hz)
  exact InK.of_i64 (by omega) (by omega)
/-- A block just laid reads as its numbers. -/
theorem rd_new (w : World) (l : List Int) (h : l.all (fun z => decide (0 ≤ z ∧ z < 100)) = true) (hl : l.length ≤ 100) (n : Nat) (hn : n = l.length) : Rd (w.alloc (.cells (cellsOf .i64 l) 3)) .i64 (some ⟨w.heap.size, 0, none⟩) n l :=
  Rd.of_cells (Blk.new w 3 _) hn (by omega) (small100 h)
theorem kx_txt : Txt [2, 1, 2, 1, 0] := (txt_iff _).1 (by kernel_rfl)
theorem kx_sort : sortS [2, 1, 2, 1, 0] = [4, 3, 1, 2, 0] := by kernel_rfl
theorem kx_red : red [2, 1, 2, 1, 0] = [1, 0] := by kernel_rfl
theorem kx_more : more [2, 1, 2, 1, 0] = true := by kernel_rfl
theorem kx_more1 : more [1, 0] = false := by kernel_rfl
theorem kx_lvs {d : Nat} (h1 : ∀ k, k < d → more (lv [2, 1, 2, 1, 0] k) = true) (h2 : more (lv [2, 1, 2, 1, 0] d) = false) : lvs [2, 1, 2, 1, 0] d = [[2, 1, 2, 1, 0], [1, 0]] := by
  have e1 : lv [2, 1, 2, 1, 0] 1 = [1, 0] := kx_red
  match d, h1, h2 with
  | 0, _, h2 =>
    have : more [2, 1, 2, 1, 0] = false := h2
    rw [kx_more] at this
    cases this
  | 1, _, _ =>
    show [lv [2, 1, 2, 1, 0] 0, lv [2, 1, 2, 1, 0] 1] = _
    rw [e1]
    rfl
  | d + 2, h1, _ =>
    have := h1 1 (by omega)
    rw [e1, kx_more1] at this
    cases this

theorem OwnL.at0 {w : World} {base e q : Nat} {k : IntKind} {m : Nat} {ad : Addr} {n c : Nat} {ls : List (List Int)} (h : OwnL w base e q k m (.slice (some ad) n c) ls) : ∃ g, ad = ⟨g, 0, none⟩ := by
  obtain ⟨vs, h1, _⟩ := h.out
  rcases h1.row.2 with ⟨e, _⟩ | ⟨g, cap, cur, e, _⟩
  · cases e
  · simp only [Value.slice.injEq, Option.some.injEq] at e
    exact ⟨g, e.1⟩

set_option maxHeartbeats 4000000 in
theorem known17_calls (w : World) : Calls Try.prog 25 #[] w fun e w' => e = .returned (.bool true) ∧ Up w w' := by
  have hx1 : Rd (w.alloc (.cells #[.int .i64 2, .int .i64 1, .int .i64 2, .int .i64 1, .int .i64 0] 3)) .i64 (some ⟨w.heap.size, 0, none⟩) 5 [2, 1, 2, 1, 0] := rd_new w [2, 1, 2, 1, 0] (by decide) (by decide) 5 rfl
  have hu1 : Up w (w.alloc (.cells #[.int .i64 2, .int .i64 1, .int .i64 2, .int .i64 1, .int .i64 0] 3)) := (Up.refl w).alloc _
  go_enter Try.func25, Try.ntmps25
  go_wp2_with fail
  generalize (w.alloc (.cells #[.int .i64 2, .int .i64 1, .int .i64 2, .int .i64 1, .int .i64 0] 3)) = w1 at *
  refine (order_calls kx_txt (by decide) _ _ w1 hx1).mono ?_
  rw [kx_sort]
  rintro en w2 ⟨v2, rfl, hv2, hu2⟩
  obtain ⟨A2, c2, rfl, hr2⟩ := hv2.rd
  replace hu2 := hu1.trans hu2
  clear hx1 hu1 hv2
  go_wp2_with fail
  have hx2 : Rd (w2.alloc (.cells #[.int .i64 2, .int .i64 1, .int .i64 2, .int .i64 1, .int .i64 0] 3)) .i64 (some ⟨w2.heap.size, 0, none⟩) 5 [2, 1, 2, 1, 0] := rd_new w2 [2, 1, 2, 1, 0] (by decide) (by decide) 5 rfl
  have ha2 : Up w2 (w2.alloc (.cells #[.int .i64 2, .int .i64 1, .int .i64 2, .int .i64 1, .int .i64 0] 3)) := (Up.refl w2).alloc _
  generalize (w2.alloc (.cells #[.int .i64 2, .int .i64 1, .int .i64 2, .int .i64 1, .int .i64 0] 3)) = w3 at *
  refine (levels_calls kx_txt (by decide) _ _ w3 hx2).mono ?_
  rintro en w4 ⟨v4, d, rfl, hv4, hu4, hm, hmo⟩
  rw [kx_lvs hm hmo] at hv4
  obtain ⟨A4, c4, rfl, hr4⟩ := hv4.rd
  obtain ⟨ad, t, At, ct, rfl, hct, hrt, HT⟩ := hr4.get 1 (by decide)
  have ht := HT.out
  obtain rfl : [1, 0] = t := ht
  obtain ⟨g4, rfl⟩ := OwnL.at0 hv4
  rw [add_lit0] at hct
  have hU := hu2.trans (ha2.trans hu4)
  have hr24 := hr2.up (ha2.trans hu4)
  clear hx2 ha2 hu2 hu4 hr2 hv4 hr4 HT hm hmo
  go_wp2_with fail
  have hy2 : Rd (w4.alloc (.cells #[.int .i64 4, .int .i64 3, .int .i64 1, .int .i64 2, .int .i64 0] 3)) .i64 (some ⟨w4.heap.size, 0, none⟩) 5 [4, 3, 1, 2, 0] := rd_new w4 [4, 3, 1, 2, 0] (by decide) (by decide) 5 rfl
  have ha2 : Up w4 (w4.alloc (.cells #[.int .i64 4, .int .i64 3, .int .i64 1, .int .i64 2, .int .i64 0] 3)) := (Up.refl w4).alloc _
  refine (c_same [4, 3, 1, 2, 0] [4, 3, 1, 2, 0] (by decide) _ _ _ _ _ (hr24.up ha2) hy2).mono ?_
  rintro en w5 ⟨rfl, q5, rfl⟩
  have hb5 := ha2.drewN q5
  generalize ((w4.alloc (.cells #[.int .i64 4, .int .i64 3, .int .i64 1, .int .i64 2, .int .i64 0] 3)).drewN q5) = w5 at *
  have hct5 : w5.cell? ⟨g4, 1, none⟩ = some (.slice At 2 ct) := hb5.cell hct
  have hrt5 := hrt.up hb5
  have hU5 := hU.trans hb5
  rw [decide_eq_true (show ([4, 3, 1, 2, 0] : List Int) = [4, 3, 1, 2, 0] from rfl)]
  clear hr24 hy2 ha2 hct hrt hU hb5
  go_wp2_with fail
  have hy3 : Rd (w5.alloc (.cells #[.int .i64 1, .int .i64 0] 3)) .i64 (some ⟨w5.heap.size, 0, none⟩) 2 [1, 0] := rd_new w5 [1, 0] (by decide) (by decide) 2 rfl
  have ha3 : Up w5 (w5.alloc (.cells #[.int .i64 1, .int .i64 0] 3)) := (Up.refl w5).alloc _
  refine (c_same [1, 0] [1, 0] (by decide) _ _ _ _ _ (hrt5.up ha3) hy3).mono ?_
  rintro en w6 ⟨rfl, q6, rfl⟩
  have hb6 := (hU5.trans ha3).drewN q6
  rw [decide_eq_true (show ([1, 0] : List Int) = [1, 0] from rfl)]
  go_wp2_with fail
  go_ret
  exact ⟨rfl, hb6⟩
end Go.Proofs.Ytmmacpicbonhhaa.SalPure
