/- Layer 16: InduceChecks: what the functions answer of anything; the law. -/
import Derived.Test.YthkofhidhghmmaaIndCPure
import Derived.Test.YthkofhidhghmmaaChkW
namespace Go.Proofs.Ythkofhidhghmmaa.IndCPure
open Go.RowKit Go.Proofs.Ythkofhidhghmmaa Go.Proofs.Ythkofhidhghmmaa.PIndC Go.Proofs.YthkofhidhghmmaaW.PrintWords Go.Proofs.YthkofhidhghmmaaW.PrintMore
set_option linter.unusedVariables false

theorem headsE (x : List Int) (hb : x.length ≤ 65536) (hw : ∀ z ∈ x, (Lit.int .i64 z).wf = true) : ∃ l, Ev (fun k => induce_Heads.f k x) (l, chk x) := by
  by_cases hx : Txt x
  · exact ⟨_, by rw [(txt_iff x).2 hx]; exact heads hx hb⟩
  · refine ⟨[], ?_⟩
    unfold induce_Heads.f
    refine Ev.bind (check x hb hw) ?_
    simp only [if_neg (fun h => hx ((txt_iff x).1 h))]
    exact Ev.now _
theorem tailsE (x : List Int) (hb : x.length ≤ 65536) (hw : ∀ z ∈ x, (Lit.int .i64 z).wf = true) : ∃ l, Ev (fun k => induce_Tails.f k x) (l, chk x) := by
  by_cases hx : Txt x
  · exact ⟨_, by rw [(txt_iff x).2 hx]; exact tails hx hb⟩
  · refine ⟨[], ?_⟩
    unfold induce_Tails.f
    refine Ev.bind (check x hb hw) ?_
    simp only [if_neg (fun h => hx ((txt_iff x).1 h))]
    exact Ev.now _
theorem firstsE {x : List Int} (hx : ¬ Txt x) (hb : x.length ≤ 65536) (hw : ∀ z ∈ x, (Lit.int .i64 z).wf = true) : Ev (fun k => suffix_Firsts.f k x) ([], chk x) := by
  have := firsts x hb hw
  rwa [if_neg hx] at this
theorem chk_ne {x : List Int} (hx : ¬ Txt x) : ¬ chk x = 0 := fun h => hx ((txt_iff x).1 h)
theorem induceE {x y : List Int} (hx : ¬ Txt x) (hb : x.length ≤ 65536) (hw : ∀ z ∈ x, (Lit.int .i64 z).wf = true) (hy : y.length ≤ 65536) (hwy : ∀ z ∈ y, (Lit.int .i64 z).wf = true) : Ev (fun k => induce_Induce.f k x y) ([], chk x) := by
  unfold induce_Induce.f
  simp only [if_pos (show inKs .i64 x = true ∧ inKs .i64 y = true ∧ y.length ≤ 65536 from ⟨inKs_true hw, inKs_true hwy, hy⟩)]
  refine Ev.bind (firstsE hx hb hw) ?_
  simp only [if_neg (chk_ne hx), if_pos (show inKs .i64 [] = true from rfl)]
  exact Ev.now _
theorem induceN {x y : List Int} (hx : Txt x) (hb : x.length ≤ 65536) (hy : y.length ≤ 65536) (hwy : ∀ z ∈ y, (Lit.int .i64 z).wf = true) (hp : ¬ y.Perm (firstsL x)) : Ev (fun k => induce_Induce.f k x y) ([], 3) := by
  unfold induce_Induce.f
  simp only [if_pos (show inKs .i64 x = true ∧ inKs .i64 y = true ∧ y.length ≤ 65536 from ⟨inKs_true (txt_wf hx), inKs_true hwy, hy⟩)]
  refine Ev.bind (firsts x hb (txt_wf hx)) ?_
  rw [if_pos hx]
  simp only [if_true, if_pos (show inKs .i64 (firstsL x) = true ∧ (firstsL x).Pairwise (· ≤ ·) from ⟨inKs_true (firstsL_wf x hb), (firstsL_lt x).imp fun h => by omega⟩), if_neg (fun h => hp (List.isPerm_iff.1 h))]
  exact Ev.now _
theorem namesE {x y : List Int} (hx : ¬ Txt x) (hb : x.length ≤ 65536) (hw : ∀ z ∈ x, (Lit.int .i64 z).wf = true) : Ev (fun k => induce_Names.f k x y) ([], 0, chk x) := by
  unfold induce_Names.f
  refine Ev.bind (check x hb hw) ?_
  simp only [if_neg (chk_ne hx)]
  exact Ev.now _
theorem namesT {x y : List Int} (hx : Txt x) (hb : x.length ≤ 65536) (hy : y.length ≤ 65536) (hwy : ∀ z ∈ y, (Lit.int .i64 z).wf = true) : ∃ l m, Ev (fun k => induce_Names.f k x y) (l, m, errN (decide (Good y) && decide (y.length = x.length))) := by
  have hck := check x hb (txt_wf hx)
  rw [(txt_iff x).2 hx] at hck
  by_cases hg : Good y
  · have ht : turnedR y = (outOf y.length y, 0) := by unfold turnedR; rw [if_pos hg]
    by_cases hl : y.length = x.length
    · refine ⟨nmsL x (firstsN x) y, ((nmAll x (firstsN x) y).n : Int), ?_⟩
      rw [decide_eq_true hg, decide_eq_true hl]
      unfold induce_Names.f
      refine Ev.bind hck ?_
      simp only [if_true]
      refine Ev.bind (turned y (by omega)) ?_
      rw [ht]
      simp only [if_true, if_pos (show (y.length : Int) = (x.length : Int) by omega)]
      exact Ev.bind (named hx hb y hwy hy) (Ev.now _)
    · refine ⟨[], 0, ?_⟩
      rw [decide_eq_true hg, decide_eq_false hl]
      unfold induce_Names.f
      refine Ev.bind hck ?_
      simp only [if_true]
      refine Ev.bind (turned y (by omega)) ?_
      rw [ht]
      simp only [if_true, if_neg (show ¬ (y.length : Int) = (x.length : Int) by omega)]
      exact Ev.now _
  · refine ⟨[], 0, ?_⟩
    have ht : turnedR y = ([], 3) := by unfold turnedR; rw [if_neg hg]
    rw [decide_eq_false hg]
    unfold induce_Names.f
    refine Ev.bind hck ?_
    simp only [if_true]
    refine Ev.bind (turned y (by omega)) ?_
    rw [ht]
    simp only [if_neg (show ¬ (3 : Int) = 0 by decide)]
    exact Ev.now _
theorem reducedE {x : List Int} (hx : ¬ Txt x) (hb : x.length ≤ 65536) (hw : ∀ z ∈ x, (Lit.int .i64 z).wf = true) : Ev (fun k => induce_Reduced.f k x) ([], chk x) := by
  unfold induce_Reduced.f
  refine Ev.bind (firstsE hx hb hw) ?_
  simp only [if_neg (chk_ne hx)]
  exact Ev.now _
theorem backE {x y : List Int} (hx : ¬ Txt x) (hb : x.length ≤ 65536) (hw : ∀ z ∈ x, (Lit.int .i64 z).wf = true) : Ev (fun k => induce_Back.f k x y) ([], chk x) := by
  unfold induce_Back.f
  refine Ev.bind (firstsE hx hb hw) ?_
  simp only [if_neg (chk_ne hx)]
  exact Ev.now _
theorem backT {x y : List Int} (hx : Txt x) (hb : x.length ≤ 65536) (hy : y.length ≤ 65536) : ∃ l, Ev (fun k => induce_Back.f k x y) (l, errN (decide (Good y) && decide (y.length = (firstsL x).length))) := by
  by_cases hg : Good y
  · by_cases hl : y.length = (firstsL x).length
    · refine ⟨y.map fun z => (firstsL x).getD z.toNat 0, ?_⟩
      rw [decide_eq_true hg, decide_eq_true hl]
      exact back hx hb hg hl
    · refine ⟨[], ?_⟩
      rw [decide_eq_true hg, decide_eq_false hl]
      have ht : turnedR y = (outOf y.length y, 0) := by unfold turnedR; rw [if_pos hg]
      unfold induce_Back.f
      refine Ev.bind (firsts x hb (txt_wf hx)) ?_
      rw [if_pos hx]
      simp only [if_true]
      refine Ev.bind (turned y (by omega)) ?_
      rw [ht]
      simp only [if_true]
      refine Ev_now fun k => ?_
      simp only [induce_Back.j0]
      rw [if_pos (by simpa using (show (y.length : Int) ≠ ((firstsL x).length : Int) by omega))]
      rfl
  · refine ⟨[], ?_⟩
    rw [decide_eq_false hg]
    have ht : turnedR y = ([], 3) := by unfold turnedR; rw [if_neg hg]
    unfold induce_Back.f
    refine Ev.bind (firsts x hb (txt_wf hx)) ?_
    rw [if_pos hx]
    simp only [if_true]
    refine Ev.bind (turned y (by omega)) ?_
    rw [ht]
    simp only [if_neg (show ¬ (3 : Int) = 0 by decide)]
    refine Ev_now fun k => ?_
    simp only [induce_Back.j0]
    rw [if_pos trivial]
    rfl
/-- As many, and each of them once: the same in another order. -/
theorem once_perm {y F : List Int} (hF : F.Nodup) : allOnce y F F.length = true ↔ y.Perm F := by
  unfold allOnce
  rw [List.take_length, Bool.and_eq_true, decide_eq_true_eq, List.all_eq_true]
  constructor
  · rintro ⟨hl, h⟩
    have hmem : ∀ z ∈ F, z ∈ y := fun z hz => by
      have := of_decide_eq_true (h z hz)
      unfold cntI at this
      have h2 : 0 < (y.filter fun v => decide (v = z)).length := by omega
      obtain ⟨v, hv⟩ := List.exists_mem_of_length_pos h2
      have := List.mem_filter.1 hv
      have e : v = z := by simpa using this.2
      exact e ▸ this.1
    refine List.perm_iff_count.2 fun z => ?_
    have hc : ∀ l : List Int, List.count z l = cntI l z := fun l => by
      unfold cntI
      rw [List.count_eq_countP, List.countP_eq_length_filter]
      rfl
    by_cases hz : z ∈ F
    · rw [hc y, of_decide_eq_true (h z hz), List.Nodup.count hF, if_pos hz]
    · rw [List.count_eq_zero.2 hz, List.count_eq_zero]
      intro hzy
      have := pigeon F (y.erase z) hF fun v hv => (List.mem_erase_of_ne (fun e => hz (by rw [← e]; exact hv))).2 (hmem v hv)
      rw [List.length_erase_of_mem hzy] at this
      have : 0 < y.length := List.length_pos_of_mem hzy
      omega
  · intro hp
    refine ⟨hp.length_eq, fun z hz => decide_eq_true ?_⟩
    unfold cntI
    rw [(hp.filter _).length_eq]
    have := List.Nodup.count hF (a := z)
    rw [if_pos hz, List.count_eq_countP, List.countP_eq_length_filter] at this
    rw [← this]
    rfl

theorem take60 (A : Option Addr) (c : Nat) (l : List Int) (w : World) (h : Rd w .i64 A c l) : Rd w .i64 A c (l.take 60) ∧ (min (l.length : Int) 60).toNat = (l.take 60).length ∧ (l.take 60).length ≤ 60 := by
  refine ⟨h.take 60, ?_, List.length_take_le _ _⟩
  rw [List.length_take]
  omega
theorem lawInduceChecks_calls (A0 : Option Addr) (c0 : Nat) (l0 : List Int) (A1 : Option Addr) (c1 : Nat) (l1 : List Int) (w : World) (h0 : Rd w .i64 A0 c0 l0) (h1 : Rd w .i64 A1 c1 l1) :
    Calls Try.prog 12 #[.slice A0 l0.length c0, .slice A1 l1.length c1] w fun en w' => en = .returned (.bool true) ∧ Up w w' := by
  obtain ⟨hx0, hn0, hx60⟩ := take60 A0 c0 l0 w h0
  obtain ⟨hy0, hn1, hy60⟩ := take60 A1 c1 l1 w h1
  have hL0 := h0.le
  have hL1 := h1.le
  generalize l0.take 60 = x at *
  generalize l1.take 60 = y at *
  have hw : ∀ z ∈ x, (Lit.int .i64 z).wf = true := fun z hz => (hx0.wf z hz).1
  have hwy : ∀ z ∈ y, (Lit.int .i64 z).wf = true := fun z hz => (hy0.wf z hz).1
  obtain ⟨k8, e8⟩ := Ev.rounds known
  obtain ⟨k1, e1⟩ := Ev.rounds (refCheck x (by omega))
  obtain ⟨hl, eh⟩ := headsE x (by omega) hw
  obtain ⟨tl, et⟩ := tailsE x (by omega) hw
  obtain ⟨k2, e2⟩ := Ev.rounds eh
  obtain ⟨k3, e3⟩ := Ev.rounds et
  have H1 : ∀ n, chk x = n → ∀ w', Up w w' → Hid (Calls Try.prog 32 #[.slice A0 x.length c0] w' (RetI w' n)) := fun n en w' hu => Lib.hid ((incipitref15_Check.calls k1 A0 c0 x n w' (kd_of_rd (hx0.up hu)) hx0.le (by rw [← en]; exact e1)).mono fun _ _ h => ⟨h.1, by obtain ⟨q, rfl⟩ := h.2.out; exact (Up.refl w').drewN q⟩)
  have H2 : ∀ n, chk x = n → ∀ w', Up w w' → Hid (Calls Try.prog 34 #[.slice A0 x.length c0] w' (RetE w' n)) := fun n en w' hu => Lib.hid ((induce_Heads.calls k2 A0 c0 x hl n w' (kd_of_rd (hx0.up hu)) hx0.le (by rw [← en]; exact e2)).mono fun _ _ ⟨v, he, _, hb⟩ => ⟨v, he, ⟨hb⟩⟩)
  have H3 : ∀ n, chk x = n → ∀ w', Up w w' → Hid (Calls Try.prog 35 #[.slice A0 x.length c0] w' (RetE w' n)) := fun n en w' hu => Lib.hid ((induce_Tails.calls k3 A0 c0 x tl n w' (kd_of_rd (hx0.up hu)) hx0.le (by rw [← en]; exact e3)).mono fun _ _ ⟨v, he, _, hb⟩ => ⟨v, he, ⟨hb⟩⟩)
  have H4 : ∀ l n, Ev (fun k => induce_Induce.f k x y) (l, n) → ∀ w', Up w w' → Hid (Calls Try.prog 39 #[.slice A0 x.length c0, .slice A1 y.length c1] w' (RetE w' n)) := fun l n ev w' hu => Lib.hid (by
    obtain ⟨k, e⟩ := Ev.rounds ev
    exact (induce_Induce.calls k A0 c0 x A1 c1 y l n w' (kd_of_rd (hx0.up hu)) hx0.le (kd_of_rd (hy0.up hu)) hy0.le e).mono fun _ _ ⟨v, he, _, hb⟩ => ⟨v, he, ⟨hb⟩⟩)
  have H5 : ∀ l m n, Ev (fun k => induce_Names.f k x y) (l, m, n) → ∀ w', Up w w' → Hid (Calls Try.prog 42 #[.slice A0 x.length c0, .slice A1 y.length c1] w' (RetE3 w' n)) := fun l m n ev w' hu => Lib.hid (by
    obtain ⟨k, e⟩ := Ev.rounds ev
    exact (induce_Names.calls k A0 c0 x A1 c1 y l m n w' (kd_of_rd (hx0.up hu)) hx0.le (kd_of_rd (hy0.up hu)) hy0.le e).mono fun _ _ ⟨v, he, _, hb⟩ => ⟨v, m, he, ⟨hb⟩⟩)
  have H6 : ∀ l n, Ev (fun k => induce_Reduced.f k x) (l, n) → ∀ w', Up w w' → Hid (Calls Try.prog 46 #[.slice A0 x.length c0] w' (RetE w' n)) := fun l n ev w' hu => Lib.hid (by
    obtain ⟨k, e⟩ := Ev.rounds ev
    exact (induce_Reduced.calls k A0 c0 x l n w' (kd_of_rd (hx0.up hu)) hx0.le e).mono fun _ _ ⟨v, he, _, hb⟩ => ⟨v, he, ⟨hb⟩⟩)
  have H7 : ∀ l n, Ev (fun k => induce_Back.f k x y) (l, n) → ∀ w', Up w w' → Hid (Calls Try.prog 47 #[.slice A0 x.length c0, .slice A1 y.length c1] w' (RetE w' n)) := fun l n ev w' hu => Lib.hid (by
    obtain ⟨k, e⟩ := Ev.rounds ev
    exact (induce_Back.calls k A0 c0 x A1 c1 y l n w' (kd_of_rd (hx0.up hu)) hx0.le (kd_of_rd (hy0.up hu)) hy0.le e).mono fun _ _ ⟨v, he, _, hb⟩ => ⟨v, he, ⟨hb⟩⟩)
  have H8 : ∀ w', Up w w' → Hid (Calls Try.prog 38 #[] w' (RetT w' true)) := fun w' hu => Lib.hid ((incipitlaw16_known.calls k8 true w' e8).mono fun _ _ h => ⟨h.1, ⟨h.2⟩⟩)
  by_cases hx : Txt x
  · have hc := (txt_iff x).2 hx
    have hF := firstsL_nodup x
    have hFl := firstsL_len x
    obtain ⟨nl, nm, hnm⟩ := namesT (y := y) hx (by omega) (by omega) hwy
    obtain ⟨bl, hbl⟩ := backT (y := y) hx (by omega) (by omega)
    obtain ⟨il, hil⟩ : ∃ il, Ev (fun k => induce_Induce.f k x y) (il, errN (allOnce y (firstsL x) (firstsL x).length)) := by
      by_cases hp : y.Perm (firstsL x)
      · exact ⟨_, by rw [(once_perm hF).2 hp]; exact induce hx (by omega) hp⟩
      · refine ⟨[], ?_⟩
        rw [show allOnce y (firstsL x) (firstsL x).length = false from Bool.eq_false_iff.2 fun h => hp ((once_perm hF).1 h)]
        exact induceN hx (by omega) (by omega) hwy hp
    refine chk_ok A0 A1 c0 c1 l0 l1 w hL0 hL1 x.length y.length hn0 hn1 y (firstsL x) hy0 rfl hy60 (by omega) (decide (Good y)) (H1 0 hc) (H2 0 hc) (H3 0 hc) (H4 _ _ hil) (H5 _ _ _ hnm) (H6 _ _ (reduced hx (by omega))) (H7 _ _ hbl) H8 (fun w' hu => Lib.hid ?_) (fun w' hu => Lib.hid ?_)
    · obtain ⟨k, e⟩ := Ev.rounds (refFirsts hx (by omega))
      exact (incipitref15_Firsts.calls k A0 c0 x (firstsL x) w' (kd_of_rd (hx0.up hu)) hx0.le e).mono fun _ _ ⟨v, he, hv, hb⟩ => ⟨v, he, own_of_kd hv fun z hz => ⟨firstsL_wf x (by omega) z hz⟩, ⟨hb⟩⟩
    · obtain ⟨l, hl2⟩ : ∃ l, Ev (fun k => incipitref15_Turned.f k y) (l, decide (Good y)) := by
        have := refTurned y (by omega)
        by_cases hg : Good y
        · rw [if_pos ((good_iff y).1 hg)] at this
          exact ⟨_, by rw [decide_eq_true hg]; exact this⟩
        · rw [if_neg fun h => hg ((good_iff y).2 h)] at this
          exact ⟨_, by rw [decide_eq_false hg]; exact this⟩
      obtain ⟨k, e⟩ := Ev.rounds hl2
      exact (incipitref15_Turned.calls k A1 c1 y l _ w' (kd_of_rd (hy0.up hu)) hy0.le e).mono fun _ _ ⟨v, he, _, hb⟩ => ⟨v, he, ⟨hb⟩⟩
  · exact chk_bad A0 A1 c0 c1 l0 l1 w hL0 hL1 x.length y.length hn0 hn1 (chk x) (chk_ne hx) (H1 _ rfl) (H2 _ rfl) (H3 _ rfl) (H4 _ _ (induceE hx (by omega) hw (by omega) hwy)) (H5 _ _ _ (namesE hx (by omega) hw)) (H6 _ _ (reducedE hx (by omega) hw)) (H7 _ _ (backE hx (by omega) hw)) H8
end Go.Proofs.Ythkofhidhghmmaa.IndCPure
