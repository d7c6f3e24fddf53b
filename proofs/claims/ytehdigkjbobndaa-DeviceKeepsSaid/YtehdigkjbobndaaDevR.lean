/- Layer 3: Read, Image. -/
import Derived.Test.YtehdigkjbobndaaDevW
namespace Go.Proofs.Ytehdigkjbobndaa
open Go.RowKit
set_option maxRecDepth 100000

theorem flat_page {m : Nat} : ∀ (pg : List (List Int)) (no : Nat), (∀ p ∈ pg, p.length = m) → no < pg.length → (pg.flatten.take (m * no + m)).drop (m * no) = pg.getD no []
  | [], no, _, h => by simp at h
  | p :: pg, 0, h, _ => by
    have := h p (List.mem_cons_self ..)
    rw [List.flatten_cons, Nat.mul_zero, Nat.zero_add, List.drop_zero, ← this, List.take_left']
    · rfl
    · rfl
  | p :: pg, no + 1, h, hl => by
    have hp := h p (List.mem_cons_self ..)
    have ih := flat_page pg no (fun q hq => h q (List.mem_cons_of_mem _ hq)) (by simpa using hl)
    rw [List.flatten_cons, show m * (no + 1) + m = p.length + (m * no + m) by rw [hp, Nat.mul_succ]; omega, show m * (no + 1) = p.length + m * no by rw [hp, Nat.mul_succ]; omega,
      List.take_length_add_append, List.drop_length_add_append, ih]
    rfl
theorem DevX.page {w : World} {g : Nat} {S : Nat → Prop} {s : DSt} {gl cap bm n : Nat} {f : Int → Option Value} (h : DevX w g S s gl cap bm n f) (no : Nat) (hn : no < s.pg.length) : Rd w .u8 (some ⟨gl, 256 * no, none⟩) (cap - 256 * no) (s.pg.getD no []) ∧ (s.pg.getD no []).length = 256 := by
  have hcap := h.cap
  have hlen := flatten_len h.ok.len
  obtain ⟨A, c, e, hr⟩ := h.laid.rd
  injection e with e1 _ e3
  subst e1 e3
  have := hr.cut (256 * no) (256 * no + 256) cap (by omega) (by omega) (by omega) (Nat.le_refl _)
  rw [flat_page _ _ h.ok.len hn, if_neg (by omega)] at this
  have ea := add_lit0 gl (256 * no)
  simp only [Option.map_some, ea] at this
  refine ⟨this, ?_⟩
  rw [List.getD_eq_getElem?_getD, List.getElem?_eq_getElem hn]
  exact h.ok.len _ (List.getElem_mem hn)
/-- What a page reads. -/
def devSees (s : DSt) (no : Nat) : List Int := if s.wt no = [] then s.pg.getD no [] else (s.wt no).getD ((s.wt no).length - 1) []
theorem devSees_len {s : DSt} (h : DOk s) {no : Nat} (hn : no < s.pg.length) : (devSees s no).length = 256 := by
  unfold devSees
  split
  · rw [List.getD_eq_getElem?_getD, List.getElem?_eq_getElem hn]
    exact h.len _ (List.getElem_mem hn)
  · rename_i hw
    have h0 : 0 < (s.wt no).length := List.length_pos_iff.2 hw
    rw [List.getD_eq_getElem?_getD, List.getElem?_eq_getElem (by omega)]
    exact h.wlen no _ (List.getElem_mem _)
set_option maxHeartbeats 1000000 in
theorem devImage_calls (g : Nat) (S : Nat → Prop) (s : DSt) (w : World) (h : DevI w g S s) :
    Calls Try.prog 16 #[.pointer (some ⟨g, 0, none⟩)] w (RetOwn w 5 .u8 s.pg.flatten) := by
  obtain ⟨gl, cap, bm, n, f, h⟩ := h.out
  have hlen := flatten_len h.ok.len
  have hm := h.ok.most
  have g6 : w.cell? ⟨g, 6, none⟩ = some (.slice (some ⟨gl, 0, none⟩) (256 * s.pg.length) cap) := h.b.cell 6
  obtain ⟨A, c, e, hr⟩ := h.laid.rd
  injection e with e1 e2 e3
  subst e1 e3
  clear e2
  have HC := Lib.hid (bytesClone_n hr (by omega) hlen.symm)
  clear hr h hlen
  go_enter Try.func16, Try.ntmps16
  go_wp2_with fail
  refine (HC.out).mono ?_
  rintro en w1 ⟨v, rfl, hv, hu⟩
  go_wp2_with fail
  go_ret
  exact RetOwn.of hv hu
set_option maxHeartbeats 1000000 in
theorem devRead_bad (g : Nat) (S : Nat → Prop) (s : DSt) (no : Int) (w : World) (h : DevI w g S s) (hb : devErr s no ≠ 0) :
    Calls Try.prog 17 #[.pointer (some ⟨g, 0, none⟩), .int .i64 no] w fun e w' => e = .returned (.tuple #[.slice none 0 0, .int .i64 (devErr s no)]) ∧ w' = w := by
  have H1 := Lib.hid (devCheck_calls g S s no w h)
  have hen : (devErr s no != 0) = true := by simp [hb]
  clear h hb
  generalize devErr s no = er at *
  go_enter Try.func17, Try.ntmps17
  go_wp2_with fail
  refine (H1.out).mono ?_
  rintro en w1 ⟨rfl, rfl⟩
  go_wp2_with fail
  go_ret2
  exact ⟨rfl, rfl⟩
/-- A page was read. -/
structure DevSeen (w : World) (g : Nat) (S : Nat → Prop) (s : DSt) (l : List Int) (en : Ending) (w' : World) : Prop where mk ::
  out : ∃ v, en = .returned (.tuple #[v, .int .i64 0]) ∧ Own w' w.heap.size 5 .u8 v l ∧ DevI w' g S { s with rd := s.rd + 1 } ∧ UpX (fun b => b = g) w w'
set_option maxHeartbeats 2000000 in
theorem devRead_ok (g : Nat) (S : Nat → Prop) (s : DSt) (no : Nat) (w : World) (h : DevI w g S s) (ho : s.off = false) (hn : no < s.pg.length) (hrd : s.rd < 1000000000000) :
    Calls Try.prog 17 #[.pointer (some ⟨g, 0, none⟩), .int .i64 no] w (DevSeen w g S s (devSees s no)) := by
  have H1 := Lib.hid (devCheck_calls g S s no w h)
  rw [devErr_ok ho (by omega) (by omega)] at H1
  obtain ⟨gl, cap, bm, n, f, hd⟩ := h.out
  have hmost := hd.ok.most
  have hik : InK .i64 (no : Int) := InK.of_i64 (by omega) (by omega)
  have g3 : w.cell? ⟨g, 3, none⟩ = some (.int .i64 s.rd) := hd.b.cell 3
  have HADD := Lib.hid (atomAdd_calls ⟨g, 3, none⟩ s.rd w g3 (hd.b.frozen 3) (by omega) (by omega))
  have HD := Lib.hid hd
  have HN := Lib.hid hn
  have HSL := Lib.hid (devSees_len hd.ok hn)
  clear h hd ho g3 hn hrd hmost
  go_enter Try.func17, Try.ntmps17
  go_wp2_with fail
  refine (H1.out).mono ?_
  rintro en w1 ⟨rfl, rfl⟩
  go_wp2_with fail
  refine (HADD.out).mono ?_
  rintro en w2 ⟨rfl, he⟩
  have hx : UpX (fun b => b = g) w1 w2 := by rw [he]; exact UpX.one _ _ _ _
  have hd : DevX w2 g S { s with rd := s.rd + 1 } gl cap bm n f := HD.out.cells hx (by rw [he]; have := HD.out.b.set 3 (.int .i64 (s.rd + 1)); simpa [devCells] using this) rfl rfl (Nat.le_refl _) HD.out.ok.left
  clear he HADD HD H1
  have g7 : w2.cell? ⟨g, 7, none⟩ = some (.map (some bm)) := hd.b.cell 7
  have hlk := hd.look (no : Int) hik
  have HSZ := Lib.hid hx.size
  rcases hd.wts.at_ (no : Int) with ⟨h1, h2⟩ | ⟨v, h1, h2, h3⟩
  · have hs : devSees s no = s.pg.getD no [] := by unfold devSees; rw [if_pos h2]
    have HP := Lib.hid (devPage_calls g S _ gl cap bm n f no w2 hd HN.out)
    obtain ⟨hpr, hpl⟩ := hd.page no HN.out
    rw [h1] at hlk
    simp only [Option.getD_none] at hlk
    have HC := Lib.hid (bytesClone_n hpr (by rw [hpl]; decide) hpl.symm)
    have HF := Lib.hid (show DevI w2 g S { s with rd := s.rd + 1 } from ⟨_, _, _, _, _, hd⟩)
    have HX := Lib.hid hx
    have HSS := Lib.hid hs
    clear hd hx hpr h1 h2 hs
    go_wp2_with fail
    refine (HP.out).mono ?_
    rintro en w3 ⟨rfl, rfl⟩
    go_wp2_with fail
    refine (HC.out).mono ?_
    rintro en w4 ⟨v, rfl, hv, hu⟩
    go_wp2_with fail
    go_ret2
    exact ⟨v, rfl, by rw [HSS.out]; exact hv.mono HSZ.out, HF.out.up hu, (HX.out).trans (hu.x _)⟩
  · have hs : devSees s no = (s.wt no).getD ((s.wt no).length - 1) [] := by unfold devSees; rw [if_neg h2]
    rw [h1] at hlk
    simp only [Option.getD_some] at hlk
    obtain ⟨A, c, rfl, hc, hrl⟩ := h3.slice
    have h0 : 0 < (s.wt no).length := List.length_pos_iff.2 h2
    obtain ⟨ad, l, A', c', rfl, hcl, hr, hlg⟩ := hrl.get ((s.wt no).length - 1) (by show (s.wt no).length - 1 < (s.wt no).length; omega)
    have hlen : ((devSees s no)).length = 256 := HSL.out
    have hll : devSees s no = l := by rw [hs]; exact hlg.out
    rw [hll] at hlen
    have HSS := Lib.hid hll
    have HC := Lib.hid (bytesClone_n hr (by omega) hlen.symm)
    have HF := Lib.hid (show DevI w2 g S { s with rd := s.rd + 1 } from ⟨_, _, _, _, _, hd⟩)
    have HX := Lib.hid hx
    have hmx := hrl.mx
    rw [hlen] at hcl
    clear hd hx h1 h2 h3 hs hll hlg hrl
    simp only at *
    generalize (s.wt no).length = m at *
    have hm1 : ((m : Int) - 1).toNat = m - 1 := by omega
    go_wp2_with fail
    refine (HC.out).mono ?_
    rintro en w4 ⟨v, rfl, hv, hu⟩
    go_wp2_with fail
    go_ret2
    exact ⟨v, rfl, by rw [HSS.out]; exact hv.mono HSZ.out, HF.out.up hu, (HX.out).trans (hu.x _)⟩
end Go.Proofs.Ytehdigkjbobndaa
