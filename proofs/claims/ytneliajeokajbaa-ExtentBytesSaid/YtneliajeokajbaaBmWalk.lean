/- The bitmap, as far as extent.pages uses it: numbers put in, one by one; and extent.pages. -/
import Derived.Test.YtneliajeokajbaaPiM
import Derived.Test.YtneliajeokajbaaBaseM
import Derived.Test.YtneliajeokajbaaWBits
import Derived.Test.YtneliajeokajbaaContains
namespace Go.Proofs.Ytneliajeokajbaa
open Go.RowKit
set_option maxRecDepth 100000

/-- A set at block g: its size, its words. -/
structure BSet (w : World) (g base size : Nat) (ws : List Int) : Prop where mk ::
  out : ∃ A c, Blk w g 149 #[.int .i64 size, .slice A ws.length c] ∧ Own w base 71 .u64 (.slice A ws.length c) ws

theorem bmMay_calls (g base size : Nat) (no : Int) (ws : List Int) (w : World) (h : BSet w g base size ws) :
    Calls Try.prog 114 #[.pointer (some ⟨g, 0, none⟩), .int .i64 no] w fun e w' => e = .returned (.bool (decide (0 ≤ no) && decide (no < size))) ∧ w = w' := by
  obtain ⟨A, c, hb, ho⟩ := h.out
  have g0 : w.cell? ⟨g, 0, none⟩ = some (.int .i64 size) := hb.cell 0
  by_cases h1 : 0 ≤ no
  · go_enter Try.func114, Try.ntmps114
    go_wp2_with fail
    go_ret
    exact ⟨by simp [h1], rfl⟩
  · have h2 : no < 0 := by omega
    have h3 : decide (0 ≤ no) = false := decide_eq_false h1
    clear h1
    go_enter Try.func114, Try.ntmps114
    go_wp2_with fail
    go_ret
    exact ⟨by simp [h3], rfl⟩
set_option maxHeartbeats 1000000 in
theorem bmHas_calls (g base size : Nat) (no : Nat) (ws : List Int) (w : World) (h : BSet w g base size ws) (hn : no < size) (hs : size ≤ 64 * ws.length) (hm : size ≤ 2048) :
    Calls Try.prog 115 #[.pointer (some ⟨g, 0, none⟩), .int .i64 no] w fun e w' => e = .returned (.bool (wbit ws no)) ∧ Qt w w' := by
  obtain ⟨A, c, hb, ho⟩ := h.out
  have g1 : w.cell? ⟨g, 1, none⟩ = some (.slice A ws.length c) := hb.cell 1
  obtain ⟨A', c', he, hr⟩ := ho.rd
  simp only [Value.slice.injEq, true_and] at he
  obtain ⟨rfl, rfl⟩ := he
  have hq1 : no / 64 < ws.length := by omega
  obtain ⟨ad, x, rfl, hc, HX, hx⟩ := hr.get (no / 64) hq1
  obtain ⟨X, rfl⟩ := Int.eq_ofNat_of_zero_le hx.u64.1
  have HXX : Hid (X < 18446744073709551616) := Lib.hid (by have := hx.u64.2; omega)
  have hmay := Lib.hid (bmMay_calls g base size no ws w h)
  have HE : Hid ((decide ((0 : Int) ≤ (no : Int)) && decide ((no : Int) < (size : Int))) = true) := Lib.hid (by simp; omega)
  have hq0 := Qt.refl w
  go_enter Try.func115, Try.ntmps115
  go_wp2_with fail
  refine (hmay.out).mono ?_
  rw [HE.out]
  rintro e w' ⟨rfl, rfl⟩
  go_wp2_with fail
  go_ret
  refine ⟨?_, (by first | exact ⟨⟨_, rfl⟩⟩ | exact Qt.drewN hq0 _ | exact hq0)⟩
  show Ending.returned (Value.bool (bits BinOp.and IntKind.u64 ((X : Int) / 2 ^ (no % 64)) 1 == 1)) = _
  rw [shr64_run X (no % 64), show (1 : Int) = ((1 : Nat) : Int) from rfl, u64_and_nat _ _ (shr64_lt _ _ HXX.out) (by decide), Nat.and_one_is_mod]
  have h2 : wbit ws no = (shr64 X (no % 64)).testBit 0 := by
    rw [shr64_bit]
    unfold wbit
    rw [HX.out]
    simp
  rw [h2, Nat.testBit_zero]
  congr 2
  rw [Bool.eq_iff_iff, beq_iff_eq, decide_eq_true_eq]
  omega

/-- How many of a list's numbers were not there before. -/
def fresh : List Int → List Int → Nat
  | _, [] => 0
  | s, x :: l => (if x ∈ s then 0 else 1) + fresh (s ++ [x]) l
theorem fresh_snoc (l : List Int) (x : Int) : ∀ s, fresh s (l ++ [x]) = fresh s l + if x ∈ s ++ l then 0 else 1 := by
  induction l with
  | nil => intro s; simp [fresh]
  | cons y l ih =>
    intro s
    simp only [List.cons_append, fresh]
    rw [ih (s ++ [y])]
    simp only [List.append_assoc, List.singleton_append]
    omega
theorem fresh_le (l : List Int) : ∀ s, fresh s l ≤ l.length := by
  induction l with
  | nil => intro s; simp [fresh]
  | cons y l ih =>
    intro s
    have := ih (s ++ [y])
    simp only [fresh, List.length_cons]
    split <;> omega
theorem fresh_all (l : List Int) : ∀ s, fresh s l = l.length ↔ (l.Nodup ∧ ∀ x ∈ l, ¬ x ∈ s) := by
  induction l with
  | nil => intro s; simp [fresh]
  | cons y l ih =>
    intro s
    have h1 := fresh_le l (s ++ [y])
    have h2 := ih (s ++ [y])
    simp only [fresh, List.length_cons, List.nodup_cons, List.mem_cons, forall_eq_or_imp]
    by_cases hy : y ∈ s
    · rw [if_pos hy]
      constructor
      · intro h; omega
      · rintro ⟨_, h, _⟩; exact absurd hy h
    · rw [if_neg hy]
      constructor
      · intro h
        obtain ⟨h3, h4⟩ := h2.1 (by omega)
        refine ⟨⟨fun hm => (h4 y hm) (by simp), h3⟩, hy, fun x hx hs => h4 x hx (by simp [hs])⟩
      · rintro ⟨⟨h3, h4⟩, _, h5⟩
        have := h2.2 ⟨h4, fun x hx hs => by
          rcases List.mem_append.1 hs with h | h
          · exact h5 x hx h
          · rw [List.mem_singleton.1 h] at hx; exact h3 hx⟩
        omega
theorem xor_bit (X m j : Nat) (hm : m < 64) (hj : j < 64) : (X ^^^ shl64 1 m).testBit j = if j = m then !X.testBit j else X.testBit j := by
  rw [Nat.testBit_xor, shl64_bit, decide_eq_true hj, Bool.true_and]
  by_cases h : j = m
  · subst h; simp
  · rw [if_neg h]
    by_cases h2 : m ≤ j
    · rw [decide_eq_true h2, Bool.true_and, show (1 : Nat) = 2 ^ 0 from rfl, Nat.testBit_two_pow]
      rw [decide_eq_false (by omega)]; simp
    · rw [decide_eq_false h2]; simp
theorem xor_lt (X m : Nat) (h : X < 18446744073709551616) : X ^^^ shl64 1 m < 18446744073709551616 := Nat.xor_lt_two_pow (n := 64) h (shl64_lt _ _)

/-- The numbers that are in. -/
structure Holds (ws : List Int) (l : List Int) : Prop where mk :: (out : ∀ b : Nat, wbit ws b = decide ((b : Int) ∈ l))
structure FlipPost (w : World) (g base size n : Nat) (l s : List Int) (len : Nat) (en : Ending) (w' : World) : Prop where mk ::
  ret : en = .returned (.int .i64 n)
  out : ∃ ws', BSet w' g base size ws' ∧ ws'.length = len ∧ Holds ws' (s ++ l)
  up : UpX (fun x => base ≤ x) w w'
set_option maxHeartbeats 4000000 in
theorem bmFlip_calls (g base size : Nat) (ws s : List Int) (A : Option Addr) (c c0 : Nat) (l : List Int) (w : World) (h : BSet w g base size ws) (_hg : base ≤ g) (hs : size ≤ 64 * ws.length) (hm : size ≤ 2048) (H0 : Holds ws s)
    (h1 : Rd w .i64 A c l) (hA : ∀ ad, A = some ad → 0 < l.length → ad.block < base) (hin : ∀ x ∈ l, 0 ≤ x ∧ x < (size : Int)) :
    Calls Try.prog 111 #[.pointer (some ⟨g, 0, none⟩), .slice A l.length c0, .bool true] w (FlipPost w g base size (fresh s l) l s ws.length) := by
  have hlen := h1.len
  have HIN := Lib.hid hin
  have HA := Lib.hid hA
  have HH := Lib.hid H0
  have HS := Lib.hid hs
  have HBS := Lib.hid h
  clear hin hA H0 hs h
  go_enter Try.func111, Try.ntmps111
  go_wp2_with fail
  go_loopw [7, 9, 12] (fun n _ i wr => ∃ k : Nat, k ≤ l.length ∧ i = .int .i64 k ∧ n = .int .i64 (fresh s (l.take k) : Nat) ∧ Hid (∃ ws', BSet wr g base size ws' ∧ ws'.length = ws.length ∧ Holds ws' (s ++ l.take k)) ∧ UpX (fun x => base ≤ x) w wr) (fun _ _ i _ => l.length - (intOf i).toNat)
  case atStart => exact ⟨0, by omega, rfl, by simp [fresh], Lib.hid ⟨ws, HBS.out, rfl, by simpa using HH.out⟩, UpX.refl _ _⟩
  case round =>
    obtain ⟨k, hk, rfl, rfl, HB, hu⟩ := hrel
    obtain ⟨ws1, hb1, hl1, hh1⟩ := HB.out
    clear HB
    by_cases hlt : k < l.length
    · obtain ⟨ad, x, rfl, hc, HX, hx⟩ := (h1.upx hu fun ad e h0 => by have := HA.out ad e h0; omega).get k hlt
      have hxr := HIN.out x (by rw [← HX.out, List.getD_eq_getElem?_getD, List.getElem?_eq_getElem hlt]; exact List.getElem_mem _)
      obtain ⟨no, rfl⟩ := Int.eq_ofNat_of_zero_le hxr.1
      have hno : no < size := by omega
      have HT := Lib.hid (show l.take (k + 1) = l.take k ++ [(no : Int)] by rw [take_succ_getD l k 0 hlt, HX.out])
      have hmay := Lib.hid (bmMay_calls g base size no ws1 wr hb1)
      have hhas := Lib.hid (bmHas_calls g base size no ws1 wr hb1 hno (by rw [hl1]; exact HS.out) hm)
      have HE : Hid ((decide ((0 : Int) ≤ (no : Int)) && decide ((no : Int) < (size : Int))) = true) := Lib.hid (by simp; omega)
      have HF := Lib.hid (fresh_snoc (l.take k) (no : Int) s)
      have HL1 := Lib.hid hl1
      have HH1 := Lib.hid hh1
      have hfl := fresh_le (l.take k) s
      have hfl2 : fresh s (l.take k) ≤ k := Nat.le_trans hfl (by simp; omega)
      clear hl1 hh1 hfl
      generalize fresh s (l.take k) = n at *
      go_wp2_with fail
      refine (hmay.out).mono ?_
      rw [HE.out]
      rintro e w' ⟨rfl, rfl⟩
      go_wp2_with fail
      refine (hhas.out).mono ?_
      rintro e w' ⟨rfl, hq⟩
      cases hbit : wbit ws1 no with
      | true =>
        have HM : Hid ((no : Int) ∈ s ++ l.take k) := Lib.hid (by have := HH1.out.out no; rw [hbit] at this; simpa using this.symm)
        clear hbit
        go_wp2_with fail
        go_roundw
        case rel =>
          refine ⟨k + 1, by omega, by simp, ?_, Lib.hid ⟨ws1, ?_, HL1.out, ?_⟩, ?_⟩
          · rw [HT.out, HF.out, if_pos HM.out]; rfl
          · obtain ⟨A2, c2, hb2, ho2⟩ := hb1.out
            exact ⟨A2, c2, hb2.up hq.up, ho2.up hq.up⟩
          · refine ⟨fun b => ?_⟩
            rw [HH1.out.out b, HT.out, ← List.append_assoc]
            by_cases e : (b : Int) = (no : Int)
            · rw [e, decide_eq_true HM.out, decide_eq_true (by simp)]
            · rw [Bool.eq_iff_iff]; simp [e]
          · exact hu.trans (hq.up.x _)
        case measure => simp [intOf]; omega
      | false =>
        have HM : Hid (¬ (no : Int) ∈ s ++ l.take k) := Lib.hid (by have := HH1.out.out no; rw [hbit] at this; simpa using this.symm)
        clear hbit
        obtain ⟨A2, c2, hb, ho⟩ := hb1.out
        replace hb := hb.up hq.up
        replace ho := ho.up hq.up
        have hu' : UpX (fun x => base ≤ x) w w' := hu.trans (hq.up.x _)
        clear hb1 hu hq hc h1 hx
        have g1 : w'.cell? ⟨g, 1, none⟩ = some (.slice A2 ws1.length c2) := hb.cell 1
        obtain ⟨gw, c', he, hgb, hcw, hfw, hset⟩ := ho.store (no / 64) (by rw [HL1.out]; have := HS.out; omega)
        simp only [Value.slice.injEq, true_and] at he
        obtain ⟨rfl, rfl⟩ := he
        have hqx := ho.wf (ws1.getD (no / 64) 0) (by rw [List.getD_eq_getElem?_getD, List.getElem?_eq_getElem (show no / 64 < ws1.length by rw [HL1.out]; have := HS.out; omega)]; exact List.getElem_mem _)
        obtain ⟨X, HX2⟩ := Int.eq_ofNat_of_zero_le hqx.u64.1
        rw [HX2] at hcw
        have HXX : Hid (X < 18446744073709551616) := Lib.hid (by have := hqx.u64.2; omega)
        have HX3 := Lib.hid HX2
        have hq1 : no / 64 < ws1.length := by rw [HL1.out]; have := HS.out; omega
        clear HX2 hqx
        go_wp2_with fail
        refine wp_region_tree (Cells [(⟨g, 1, none⟩, .slice (some ⟨gw, 0, none⟩) ws1.length c2), (⟨gw, no / 64, none⟩, .int .u64 X)]) (.quiet 0 (.quiet 1 (.quiet 2 (.quiet 3 (.quiet 4 (.quiet 5 (.quiet 6 (.quiet 7 (.quiet 8 (.quiet 9 (.quiet 10 (.quiet 11 (.quiet 12 (.alt 13 (.nil) (.stop))))))))))))))) (by kernel_rfl) (by kernel_rfl) rfl (by kernel_rfl) (by kernel_rfl) (Cells.cons g1 (Cells.cons hcw (Cells.nil _))) ?_
        simp only [pickT, List.getElem?_cons_succ, List.getElem?_cons_zero, Option.getD_some]
        repeat (refine tree_step rfl (fun K hK => ?_); go_big_quiet_step ((intro _; rfl)); refine wpQuiet_nil (hK _ ?_); clear hK K)
        refine tree_load ⟨g, 1, none⟩ (.slice (some ⟨gw, 0, none⟩) ws1.length c2) (by kernel_rfl) rfl (by kernel_rfl) (fun w' h => h.head) ?_
        dsimp only [Act.put]
        simp only [List.setIfInBounds_toArray, List.set_cons_zero, List.set_cons_succ]
        repeat (refine tree_step rfl (fun K hK => ?_); go_big_quiet_step ((intro _; rfl)); refine wpQuiet_nil (hK _ ?_); clear hK K)
        refine tree_load ⟨gw, no / 64, none⟩ (.int .u64 X) (by kernel_rfl) rfl (by kernel_rfl) (fun w' h => h.tail.head) ?_
        dsimp only [Act.put]
        simp only [List.setIfInBounds_toArray, List.set_cons_zero, List.set_cons_succ]
        repeat (refine tree_step rfl (fun K hK => ?_); go_big_quiet_step ((intro _; rfl)); refine wpQuiet_nil (hK _ ?_); clear hK K)
        refine tree_do (fun K hK => ?_)
        go_wp2_with fail
        refine ⟨trivial, ?_⟩
        refine tree_nil ?_
        have hxv : bits BinOp.xor IntKind.u64 (X : Int) (IntKind.u64.wrap (2 ^ (no % 64))) = ((X ^^^ shl64 1 (no % 64) : Nat) : Int) := by
          have e1 := shl64_run 1 (no % 64)
          rw [show ((1 : Nat) : Int) * 2 ^ (no % 64) = 2 ^ (no % 64) by simp] at e1
          rw [e1, u64_xor_nat _ _ HXX.out (shl64_lt _ _)]
        rw [hxv]
        have hXl := xor_lt X (no % 64) HXX.out
        have HY := Lib.hid (show ∀ j, j < 64 → (X ^^^ shl64 1 (no % 64)).testBit j = if j = no % 64 then !X.testBit j else X.testBit j from fun j hj => xor_bit X (no % 64) j (by omega) hj)
        generalize X ^^^ shl64 1 (no % 64) = Y at *
        have hne : g ≠ gw := fun e => by
          have h3 : Typed w' 149 g := ⟨_, _, hb.out⟩
          have h4 := ho.typed gw rfl
          rw [e] at h3
          exact absurd (h3.ne h4) (by decide)
        have hb2 := (hb.other ⟨gw, no / 64, none⟩ (.int .u64 Y) hne).drew
        have ho2 := (hset Y (InK.of_u64 (by omega) (by omega))).up ((Up.refl _).drew)
        have hu2 : UpX (fun x => base ≤ x) w (w'.setCell ⟨gw, no / 64, none⟩ (.int .u64 Y)).drew := hu'.trans (((UpX.one _ _ _ _).drew).mono (by rintro b _ rfl; exact hgb))
        generalize (w'.setCell ⟨gw, no / 64, none⟩ (.int .u64 Y)).drew = w2 at *
        clear hb ho hset hcw hfw g1 hu'
        go_wp2_with fail
        go_roundw
        case rel =>
          refine ⟨k + 1, by omega, by simp, ?_, Lib.hid ⟨ws1.set (no / 64) Y, ⟨some ⟨gw, 0, none⟩, c2, by simpa using hb2, by simpa using ho2⟩, by rw [List.length_set]; exact HL1.out, ⟨fun b => ?_⟩⟩, hu2⟩
          · rw [HT.out, HF.out, if_neg HM.out]; simp
          · rw [wbit_set _ _ _ _ hq1, HT.out, ← List.append_assoc]
            have hold := HH1.out.out b
            by_cases e : b / 64 = no / 64
            · rw [if_pos e, HY.out _ (by omega)]
              have hw9 : wbit ws1 b = X.testBit (b % 64) := by unfold wbit; rw [e, HX3.out]; rfl
              by_cases e2 : b % 64 = no % 64
              · have e3 : b = no := by omega
                subst e3
                rw [if_pos rfl, ← hw9, hold, decide_eq_false HM.out]
                simp
              · rw [if_neg e2, ← hw9, hold]
                have e3 : (b : Int) ≠ (no : Int) := by omega
                rw [Bool.eq_iff_iff]; simp [e3]
            · rw [if_neg e, hold]
              have e3 : (b : Int) ≠ (no : Int) := by omega
              rw [Bool.eq_iff_iff]; simp [e3]
        case measure => simp [intOf]; omega
    · have hke : k = l.length := by omega
      subst hke
      rw [List.take_length] at *
      go_wp2_with fail
      go_ret
      refine ⟨rfl, ⟨ws1, hb1, hl1, hh1⟩, hu⟩

theorem bmAdd_calls (g base size : Nat) (ws s : List Int) (A : Option Addr) (c c0 : Nat) (l : List Int) (w : World) (h : BSet w g base size ws) (_hg : base ≤ g) (hs : size ≤ 64 * ws.length) (hm : size ≤ 2048) (H0 : Holds ws s)
    (h1 : Rd w .i64 A c l) (hA : ∀ ad, A = some ad → 0 < l.length → ad.block < base) (hin : ∀ x ∈ l, 0 ≤ x ∧ x < (size : Int)) :
    Calls Try.prog 102 #[.pointer (some ⟨g, 0, none⟩), .slice A l.length c0] w (FlipPost w g base size (fresh s l) l s ws.length) := by
  have HC := Lib.hid (bmFlip_calls g base size ws s A c c0 l w h _hg hs hm H0 h1 hA hin)
  clear h hs H0 hin hA h1
  go_enter Try.func102, Try.ntmps102
  go_wp2_with fail
  refine (HC.out).mono ?_
  rintro e w' ⟨rfl, hb, hu⟩
  go_wp2_with fail
  go_ret
  exact ⟨rfl, hb, hu⟩

/-- A new, empty set. -/
structure NewSet (w : World) (size m : Nat) (en : Ending) (w' : World) : Prop where mk ::
  out : ∃ g ws', en = .returned (.tuple #[.pointer (some ⟨g, 0, none⟩), .int .i64 0]) ∧ BSet w' g w.heap.size size ws' ∧ ws'.length = m ∧ Holds ws' [] ∧ w.heap.size ≤ g
  up : Up w w'
set_option maxHeartbeats 1000000 in
theorem bmNew_calls (w : World) : Calls Try.prog 101 #[.int .i64 2048, .slice none 0 0] w (NewSet w 2048 32) := by
  go_enter Try.func101, Try.ntmps101
  go_wp2_with (refine wpl_make (t := 117) w.heap.size 71 .u64 8 Try.underlying117 (by kernel_rfl) 32 rfl rfl (by decide) (by decide) (Nat.le_refl _) ?_; intro w1 ho1 hu1 hs1; replace hs1 := Lib.hid hs1)
  have hbN : BSet (w1.alloc (.cells #[.int .i64 (2048 : Nat), .slice (some ⟨w.heap.size, 0, none⟩) 32 32] 149)) w1.heap.size w.heap.size 2048 (List.replicate 32 0) := ⟨some ⟨w.heap.size, 0, none⟩, 32, Blk.new _ _ _, by simpa using ho1.up ((Up.refl _).alloc _)⟩
  have hgz : w.heap.size ≤ w1.heap.size := hu1.size
  refine (bmAdd_calls w1.heap.size w.heap.size 2048 (List.replicate 32 0) [] none 0 0 [] _ hbN hgz (by simp) (by decide) ⟨fun b => by rw [wbit_zeros]; simp⟩ (Rd.nil _ _) (fun ad e _ => by cases e) (fun x hx => absurd hx (by simp))).mono ?_
  rintro e w' ⟨rfl, ⟨ws', hb, hl, hh⟩, hu⟩
  go_wp2_with fail
  go_ret2
  exact ⟨⟨_, ws', rfl, hb, by simpa using hl, by simpa using hh, hgz⟩, (hu1.trans ((Up.refl _).alloc _)).thenx hu fun i hi e => by omega⟩

/-- extent.pages: what is wrong with a list of pages. -/
def pageIn (p : Int) : Bool := decide (2 ≤ p) && decide (p < 2048)
def pagesErr (l : List Int) : Int := if l.any (fun p => !pageIn p) then 10 else if 1024 < l.length then 2 else if l.Nodup then 0 else 8
theorem extPagesF_calls (p : Int) (w : World) : Calls Try.prog 100 #[.int .i64 p] w fun e w' => e = .returned (.bool (!pageIn p)) ∧ w = w' := by
  by_cases h1 : p < 2
  · have HE : Hid (pageIn p = false) := Lib.hid (by unfold pageIn; rw [decide_eq_false (by omega)]; rfl)
    go_enter Try.func100, Try.ntmps100
    go_wp2_with fail
    go_ret
    exact ⟨by rw [HE.out]; rfl, rfl⟩
  · have h2 : 2 ≤ p := by omega
    have h3 : decide (p < 2) = false := decide_eq_false h1
    have HE : Hid (pageIn p = decide (p < 2048)) := Lib.hid (by unfold pageIn; rw [decide_eq_true h2]; rfl)
    clear h1
    go_enter Try.func100, Try.ntmps100
    go_wp2_with fail
    go_ret
    refine ⟨?_, rfl⟩
    rw [HE.out]
    show Ending.returned (Value.bool (decide (2048 ≤ p))) = Ending.returned (Value.bool (!decide (p < 2048)))
    rw [show decide (2048 ≤ p) = !decide (p < 2048) by rw [Bool.eq_iff_iff]; simp]
theorem any_not_all (l : List Int) (p : Int → Bool) (h : l.any (fun x => !p x) = false) : ∀ x ∈ l, p x = true := fun x hx => by
  rw [List.any_eq_false] at h
  simpa using h x hx
set_option maxHeartbeats 1000000 in
theorem extPages_calls (A : Option Addr) (c c0 : Nat) (l : List Int) (w : World) (h1 : Rd w .i64 A c l) :
    Calls Try.prog 73 #[.slice A l.length c0] w fun e w' => e = .returned (.int .i64 (pagesErr l)) ∧ Up w w' := by
  have hlen := h1.len
  have hcf := Lib.hid (containsFunc_calls' (fun n => !pageIn n) 100 #[] A c c0 l w h1 (fun args w => by kernel_rfl) (fun n wr _ _ => extPagesF_calls n wr))
  go_enter Try.func73, Try.ntmps73
  go_wp2_with fail
  refine (hcf.out).mono ?_
  rintro e w' ⟨rfl, rfl⟩
  cases hany : l.any (fun n => !pageIn n) with
  | true =>
    have HE : Hid (pagesErr l = 10) := Lib.hid (by unfold pagesErr; rw [hany]; rfl)
    clear hany
    go_wp2_with fail
    go_ret
    exact ⟨by rw [HE.out]; rfl, Up.refl _⟩
  | false =>
    have HIN := Lib.hid (any_not_all l _ hany)
    by_cases hl : 1024 < l.length
    · have HE : Hid (pagesErr l = 2) := Lib.hid (by unfold pagesErr; rw [hany, if_pos hl]; rfl)
      clear hany
      go_wp2_with fail
      go_ret
      exact ⟨by rw [HE.out]; rfl, Up.refl _⟩
    · have HE : Hid (pagesErr l = if l.Nodup then 0 else 8) := Lib.hid (by unfold pagesErr; rw [hany, if_neg hl]; rfl)
      have hl2 : l.length ≤ 1024 := by omega
      have hd : decide (1024 < l.length) = false := decide_eq_false hl
      clear hany hl
      go_wp2_with fail
      refine (bmNew_calls _).mono ?_
      rintro e w1 ⟨⟨g, ws1, rfl, hb1, hl1, hh1, hg1⟩, hu1⟩
      go_wp2_with fail
      refine (bmAdd_calls g w.heap.size 2048 ws1 [] A c c0 l w1 hb1 hg1 (by omega) (by decide) hh1 (h1.up hu1) ?_ ?_).mono ?_
      · exact h1.lt
      · intro x hx
        have := HIN.out x hx
        unfold pageIn at this
        simp at this
        omega
      · rintro e w2 ⟨rfl, hb2, hu2⟩
        have HFR := Lib.hid (fresh_all l [])
        have hfl := fresh_le l []
        generalize fresh [] l = n at *
        by_cases hn : n = l.length
        · have hnb : ((n : Int) != (l.length : Int)) = false := by simp [hn]
          have HN : Hid l.Nodup := Lib.hid (HFR.out.1 hn).1
          clear hn
          go_wp2_with fail
          go_ret
          exact ⟨by rw [HE.out, if_pos HN.out]; rfl, hu1.thenx hu2 fun i hi e => by omega⟩
        · have hnb : ((n : Int) != (l.length : Int)) = true := by simpa using (show (n : Int) ≠ (l.length : Int) by omega)
          have HN : Hid (¬ l.Nodup) := Lib.hid fun h => hn (HFR.out.2 ⟨h, fun x _ => by simp⟩)
          clear hn
          go_wp2_with fail
          go_ret
          exact ⟨by rw [HE.out, if_neg HN.out]; rfl, hu1.thenx hu2 fun i hi e => by omega⟩
end Go.Proofs.Ytneliajeokajbaa
