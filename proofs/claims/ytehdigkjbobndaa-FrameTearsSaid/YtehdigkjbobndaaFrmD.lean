/- The walks of frame's number and Decode. -/
import Derived.Test.YtehdigkjbobndaaFrmW
import Derived.Test.YtehdigkjbobndaaPlM
import Derived.Test.YtehdigkjbobndaaWWords
namespace Go.Proofs.Ytehdigkjbobndaa
open Go.RowKit Go.Proofs.YtehdigkjbobndaaW.PrintWords
set_option maxRecDepth 100000

theorem val2 {l : List Int} (hl : l.length = 2) (hu : ∀ x ∈ l, 0 ≤ x ∧ x < 256) : ((val l : Nat) : Int) = num2 l := by
  match l, hl with
  | [a, b], _ =>
    have h1 := hu a (by simp)
    have h2 := hu b (by simp)
    show ((a.toNat + 256 * (b.toNat + 256 * 0) : Nat) : Int) = a + 256 * b
    omega
theorem val4 {l : List Int} (hl : l.length = 4) (hu : ∀ x ∈ l, 0 ≤ x ∧ x < 256) : ((val l : Nat) : Int) = num4 l := by
  match l, hl with
  | [a, b, c, d], _ =>
    have h1 := hu a (by simp)
    have h2 := hu b (by simp)
    have h3 := hu c (by simp)
    have h4 := hu d (by simp)
    show ((a.toNat + 256 * (b.toNat + 256 * (c.toNat + 256 * (d.toNat + 256 * 0))) : Nat) : Int) = a + 256 * b + 65536 * c + 16777216 * d
    omega

set_option maxHeartbeats 1000000 in
theorem frmNumber_calls (A : Option Addr) (c : Nat) (l : List Int) (w : World) (h1 : Rd w .u8 A c l) (h0 : 1 ≤ l.length) (h8 : l.length ≤ 4) :
    Calls Try.prog 66 #[.slice A l.length c] w fun en w' => en = .returned (.int .i64 (val l)) ∧ Up w w' := by
  have hv : val l < 4294967296 := by
    have := val_lt l h1.wf
    have h2 := Nat.pow_le_pow_right (n := 2) (by omega) (show 8 * l.length ≤ 32 by omega)
    have h3 : (2 : Nat) ^ 32 = 4294967296 := by decide
    omega
  have HC := Lib.hid (varGetFixed_calls A c l l.length w h1 h0 (by omega) (Nat.le_refl _) (by omega))
  rw [List.take_length, List.drop_length, show fixM (val l) = val l from if_neg (by omega), show fixF (val l) = 0 from if_neg (by omega), show fixR (val l) ([] : List Int) = [] from if_neg (by omega)] at HC
  go_enter Try.func66, Try.ntmps66
  go_wp2_with fail
  refine HC.out.mono ?_
  rintro en w1 hp
  obtain ⟨v, rfl, hv2, hu⟩ := hp.out
  go_wp2_with fail
  go_ret
  exact ⟨rfl, hu⟩

theorem part_eq (l : List Int) (lo n : Nat) : (l.take (lo + n)).drop lo = (l.drop lo).take n := by rw [List.drop_take, show lo + n - lo = n by omega]
theorem num2_take (l : List Int) : num2 (l.take 2) = num2 l := by
  unfold num2
  simp [List.getD_eq_getElem?_getD]
theorem num4_take (l : List Int) : num4 (l.take 4) = num4 l := by
  unfold num4
  simp [List.getD_eq_getElem?_getD]
theorem frmNum2_calls {A : Option Addr} {c n lo : Nat} {l p : List Int} {w : World} (h1 : Rd w .u8 A c p) (hp : p = (l.take (lo + 2)).drop lo) (hl : lo + 2 ≤ l.length) (hn : n = 2) :
    Calls Try.prog 66 #[.slice A n c] w fun en w' => en = .returned (.int .i64 (num2 (l.drop lo))) ∧ Up w w' := by
  rw [part_eq] at hp
  have h2 : p.length = 2 := by rw [hp, List.length_take, List.length_drop]; omega
  subst hn
  have := frmNumber_calls A c p w h1 (by omega) (by omega)
  rw [h2, val2 h2 h1.u8] at this
  rw [← num2_take, ← hp]
  exact this
theorem frmNum4_calls {A : Option Addr} {c n lo : Nat} {l p : List Int} {w : World} (h1 : Rd w .u8 A c p) (hp : p = (l.take (lo + 4)).drop lo) (hl : lo + 4 ≤ l.length) (hn : n = 4) :
    Calls Try.prog 66 #[.slice A n c] w fun en w' => en = .returned (.int .i64 (num4 (l.drop lo))) ∧ Up w w' := by
  rw [part_eq] at hp
  have h2 : p.length = 4 := by rw [hp, List.length_take, List.length_drop]; omega
  subst hn
  have := frmNumber_calls A c p w h1 (by omega) (by omega)
  rw [h2, val4 h2 h1.u8] at this
  rw [← num4_take, ← hp]
  exact this
theorem blk_store4 {w : World} {g e : Nat} {a0 a1 a2 a3 : Value} (h : Blk w g e #[a0, a1, a2, a3]) (b0 b1 b2 b3 : Value) : Blk ((((w.setCell ⟨g, 0, none⟩ b0).setCell ⟨g, 1, none⟩ b1).setCell ⟨g, 2, none⟩ b2).setCell ⟨g, 3, none⟩ b3) g e #[b0, b1, b2, b3] := by
  have := (((h.set 0 b0).set 1 b1).set 2 b2).set 3 b3
  simpa using this
theorem up_store4 {w0 w : World} {g : Nat} (h : Up w0 w) (hg : w0.heap.size ≤ g) (b0 b1 b2 b3 : Value) : Up w0 ((((w.setCell ⟨g, 0, none⟩ b0).setCell ⟨g, 1, none⟩ b1).setCell ⟨g, 2, none⟩ b2).setCell ⟨g, 3, none⟩ b3) :=
  (((h.setCell (p := ⟨g, 0, none⟩) hg b0).setCell (p := ⟨g, 1, none⟩) hg b1).setCell (p := ⟨g, 2, none⟩) hg b2).setCell (p := ⟨g, 3, none⟩) hg b3
structure DecPost (w : World) (r : Int × Int × Int × List Int × Int) (en : Ending) (w' : World) : Prop where mk ::
  out : ∃ v, en = .returned (.tuple #[.agg #[.int .i64 r.1, .int .i64 r.2.1, .int .i64 r.2.2.1, v], .int .i64 r.2.2.2.2]) ∧ Own w' w.heap.size 5 .u8 v r.2.2.2.1 ∧ Up w w'

theorem decRet_bad {fn : Func} {a : Act} {w w' : World} {p u : Tmp} {g : Nat} {f : Int} (hr : fn.results = #[.cell p 67, .tmp u]) (hp : a.tmps.getD p undef = .pointer (some ⟨g, 0, none⟩)) (hu : a.tmps.getD u undef = .int .i64 f)
    (hB : Blk w' g 67 #[.int .i64 0, .int .i64 0, .int .i64 0, .slice none 0 0]) (hU : Up w w') (hd : a.defers = [] := by rfl) : bodyPost Try.prog fn (DecPost w (0, 0, 0, [], f)) .ret a w' := by
  refine bodyPost_ret (results_ct (P := Try.prog) hr _ _ g 67 #[.int .i64 0, .int .i64 0, .int .i64 0, .slice none 0 0] (0, 0) _ hp hB.out Try.underlying67 rfl (by kernel_rfl)) hd ?_
  rw [hu]
  exact ⟨_, rfl, Own.nil _ _ _ _, hU⟩

set_option maxHeartbeats 4000000 in
theorem frmDecode_len (A : Option Addr) (c : Nat) (l : List Int) (w : World) (h1 : Rd w .u8 A c l) (hl : l.length ≠ 256) :
    Calls Try.prog 43 #[.slice A l.length c] w (DecPost w (0, 0, 0, [], 2)) := by
  have hlen := h1.len
  have hd : ((l.length : Int) != 256) = true := by simpa using (show (l.length : Int) ≠ 256 by omega)
  go_enter Try.func43, Try.ntmps43
  go_wp2_with fail
  exact decRet_bad (p := 2) (u := 3) (by kernel_rfl) rfl rfl (Blk.new w _ _) ((Up.refl w).alloc _)

set_option maxHeartbeats 4000000 in
theorem frmDecode_sum (A : Option Addr) (c : Nat) (l : List Int) (w : World) (h1 : Rd w .u8 A c l) (HL : Hid (l.length = 256)) (hh : holds l = false) :
    Calls Try.prog 43 #[.slice A 256 c] w (DecPost w (0, 0, 0, [], 5)) := by
  have hu0 : Up w (w.alloc (.cells #[.int .i64 0, .int .i64 0, .int .i64 0, .slice none 0 0] 67)) := (Up.refl w).alloc _
  have hB0 := Blk.new w 67 #[.int .i64 0, .int .i64 0, .int .i64 0, .slice none 0 0]
  have HC := Lib.hid (crcHolds_n (n := 256) (h1.up hu0) (by have := HL.out; omega) HL.out.symm)
  rw [hh] at HC
  go_enter Try.func43, Try.ntmps43
  go_wp2_with fail
  refine HC.out.mono ?_
  rintro en w1 ⟨rfl, hu1⟩
  have hz := hB0.up hu1
  have z0 := hz.cell 0
  have z1 := hz.cell 1
  have z2 := hz.cell 2
  have z3 := hz.cell 3
  simp only [List.getElem?_toArray, List.getElem?_cons_succ, List.getElem?_cons_zero] at z0 z1 z2 z3
  have y0 := hz.frozen 0
  have y1 := hz.frozen 1
  have y2 := hz.frozen 2
  have y3 := hz.frozen 3
  go_wp2_with fail
  exact decRet_bad (p := 2) (u := 3) (by kernel_rfl) rfl rfl (blk_store4 hz _ _ _ _) (up_store4 (hu0.trans hu1) (Nat.le_refl _) _ _ _ _)

set_option maxHeartbeats 4000000 in
theorem frmDecode_room (A : Option Addr) (c : Nat) (l : List Int) (w : World) (h1 : Rd w .u8 A c l) (HL : Hid (l.length = 256)) (hh : holds l = true) (h8 : 238 < num2 (l.drop 8)) :
    Calls Try.prog 43 #[.slice A 256 c] w (DecPost w (0, 0, 0, [], 3)) := by
  have hu0 : Up w (w.alloc (.cells #[.int .i64 0, .int .i64 0, .int .i64 0, .slice none 0 0] 67)) := (Up.refl w).alloc _
  have hB0 := Blk.new w 67 #[.int .i64 0, .int .i64 0, .int .i64 0, .slice none 0 0]
  have HC := Lib.hid (crcHolds_n (n := 256) (h1.up hu0) (by have := HL.out; omega) HL.out.symm)
  rw [hh] at HC
  go_enter Try.func43, Try.ntmps43
  go_wp2_with fail
  refine HC.out.mono ?_
  rintro en w1 ⟨rfl, hu1⟩
  go_wp2_with (refine wpl_slice (t := 22) 5 1 .u8 A 256 c l .i64 .i64 8 10 Try.underlying22 infoU8 rfl (h1.up (hu0.trans hu1)) rfl rfl (by omega) (by omega) (by have := HL.out; omega) ?_; intro A1 hr1)
  refine (frmNum2_calls (l := l) (lo := 8) hr1 rfl (by have := HL.out; omega) rfl).mono ?_
  rintro en w2 ⟨rfl, hu2⟩
  have hz := hB0.up (hu1.trans hu2)
  replace hu2 := hu0.trans (hu1.trans hu2)
  have HN := Lib.hid (show num2 (l.drop 8) = num2 (l.drop 8) from rfl)
  generalize hn8 : num2 (l.drop 8) = n8 at *
  clear HN
  have HN8 := Lib.hid hn8
  clear hn8
  have z0 := hz.cell 0
  have z1 := hz.cell 1
  have z2 := hz.cell 2
  have z3 := hz.cell 3
  simp only [List.getElem?_toArray, List.getElem?_cons_succ, List.getElem?_cons_zero] at z0 z1 z2 z3
  have y0 := hz.frozen 0
  have y1 := hz.frozen 1
  have y2 := hz.frozen 2
  have y3 := hz.frozen 3
  go_wp2_with fail
  exact decRet_bad (p := 2) (u := 3) (by kernel_rfl) rfl rfl (blk_store4 hz _ _ _ _) (up_store4 hu2 (Nat.le_refl _) _ _ _ _)

theorem UpX.four (w : World) (g : Nat) (b0 b1 b2 b3 : Value) : UpX (fun b => b = g) w ((((w.setCell ⟨g, 0, none⟩ b0).setCell ⟨g, 1, none⟩ b1).setCell ⟨g, 2, none⟩ b2).setCell ⟨g, 3, none⟩ b3) :=
  ((UpX.one w g 0 b0).trans (UpX.one _ g 1 b1)).trans ((UpX.one _ g 2 b2).trans (UpX.one _ g 3 b3))
theorem decRet_ok {fn : Func} {a : Act} {w w' : World} {p u : Tmp} {g : Nat} {K E P : Int} {b : List Int} {v : Value} (hr : fn.results = #[.cell p 67, .tmp u]) (hp : a.tmps.getD p undef = .pointer (some ⟨g, 0, none⟩)) (hu : a.tmps.getD u undef = .int .i64 0)
    (hB : Blk w' g 67 #[.int .i64 K, .int .i64 E, .int .i64 P, v]) (ho : Own w' w.heap.size 5 .u8 v b) (hU : Up w w') (hd : a.defers = [] := by rfl) : bodyPost Try.prog fn (DecPost w (K, E, P, b, 0)) .ret a w' := by
  refine bodyPost_ret (results_ct (P := Try.prog) hr _ _ g 67 #[.int .i64 K, .int .i64 E, .int .i64 P, v] (0, 0) _ hp hB.out Try.underlying67 rfl (by kernel_rfl)) hd ?_
  rw [hu]
  exact ⟨_, rfl, ho, hU⟩
end Go.Proofs.Ytehdigkjbobndaa
