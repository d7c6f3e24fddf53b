/- The walks of frame's Check and Encode. -/
import Derived.Test.YtehdigkjbobndaaFrmPlain
import Derived.Test.YtehdigkjbobndaaVarFixW
import Derived.Test.YtehdigkjbobndaaPlM
namespace Go.Proofs.Ytehdigkjbobndaa
open Go.RowKit
set_option maxRecDepth 100000

set_option maxHeartbeats 2000000 in
theorem frmCheck_calls (k e p : Int) (A : Option Addr) (c : Nat) (b : List Int) (w : World) (h1 : Rd w .u8 A c b) :
    Calls Try.prog 40 #[.agg #[.int .i64 k, .int .i64 e, .int .i64 p, .slice A b.length c]] w fun en w' => en = .returned (.int .i64 (frmCheck k e p b)) ∧ Up w w' := by
  have hlen := h1.len
  obtain ⟨r, hr⟩ : ∃ r, frmCheck k e p b = r := ⟨_, rfl⟩
  rw [hr]
  unfold frmCheck at hr
  by_cases h0 : k < 1
  · rw [if_pos (show k < 1 ∨ 9 < k by omega)] at hr
    subst hr
    go_enter Try.func40, Try.ntmps40
    go_wp2_with fail
    go_ret
    exact ⟨rfl, (Up.refl w).alloc _⟩
  · skip
    by_cases h1 : 9 < k
    · rw [if_pos (show k < 1 ∨ 9 < k by omega)] at hr
      subst hr
      go_enter Try.func40, Try.ntmps40
      go_wp2_with fail
      go_ret
      exact ⟨rfl, (Up.refl w).alloc _⟩
    · skip
      by_cases h2 : e < 0
      · rw [if_neg (show ¬ (k < 1 ∨ 9 < k) by omega), if_pos (show e < 0 ∨ 4294967295 < e ∨ p < 0 ∨ 2048 ≤ p by omega)] at hr
        subst hr
        go_enter Try.func40, Try.ntmps40
        go_wp2_with fail
        go_ret
        exact ⟨rfl, (Up.refl w).alloc _⟩
      · skip
        by_cases h3 : 4294967295 < e
        · rw [if_neg (show ¬ (k < 1 ∨ 9 < k) by omega), if_pos (show e < 0 ∨ 4294967295 < e ∨ p < 0 ∨ 2048 ≤ p by omega)] at hr
          subst hr
          go_enter Try.func40, Try.ntmps40
          go_wp2_with fail
          go_ret
          exact ⟨rfl, (Up.refl w).alloc _⟩
        · skip
          by_cases h4 : p < 0
          · rw [if_neg (show ¬ (k < 1 ∨ 9 < k) by omega), if_pos (show e < 0 ∨ 4294967295 < e ∨ p < 0 ∨ 2048 ≤ p by omega)] at hr
            subst hr
            go_enter Try.func40, Try.ntmps40
            go_wp2_with fail
            go_ret
            exact ⟨rfl, (Up.refl w).alloc _⟩
          · skip
            by_cases h5 : 2048 ≤ p
            · rw [if_neg (show ¬ (k < 1 ∨ 9 < k) by omega), if_pos (show e < 0 ∨ 4294967295 < e ∨ p < 0 ∨ 2048 ≤ p by omega)] at hr
              subst hr
              go_enter Try.func40, Try.ntmps40
              go_wp2_with fail
              go_ret
              exact ⟨rfl, (Up.refl w).alloc _⟩
            · skip
              by_cases h6 : 238 < b.length
              · rw [if_neg (show ¬ (k < 1 ∨ 9 < k) by omega), if_neg (show ¬ (e < 0 ∨ 4294967295 < e ∨ p < 0 ∨ 2048 ≤ p) by omega), if_pos h6] at hr
                subst hr
                go_enter Try.func40, Try.ntmps40
                go_wp2_with fail
                go_ret
                exact ⟨rfl, (Up.refl w).alloc _⟩
              · rw [if_neg (show ¬ (k < 1 ∨ 9 < k) by omega), if_neg (show ¬ (e < 0 ∨ 4294967295 < e ∨ p < 0 ∨ 2048 ≤ p) by omega), if_neg h6] at hr
                subst hr
                go_enter Try.func40, Try.ntmps40
                go_wp2_with fail
                go_ret
                exact ⟨rfl, (Up.refl w).alloc _⟩

theorem u64_of (x : Int) (h0 : 0 ≤ x) (h1 : x ≤ 4294967295) : IntKind.u64.wrap x = ((x.toNat : Nat) : Int) := by
  have : IntKind.u64.wrap x = x % 18446744073709551616 := rfl
  omega
theorem fixed4_calls (x : Int) (w : World) (h0 : 0 ≤ x) (h1 : x ≤ 4294967295) : Calls Try.prog 63 #[.int .i64 x, .int .i64 4] w (RetOwn w 5 .u8 (le4 x)) := by
  refine (varFixed_calls x x.toNat 4 w (u64_of x h0 h1) (by omega)).mono ?_
  rintro e w' ⟨v, xs, rfl, ho, hl, hx, hu⟩
  have : xs = le4 x := by
    refine eq_of_getD (by rw [hl]; rfl) fun i hi => ?_
    rw [hl] at hi
    rw [hx.out i hi]
    match i, hi with
    | 0, _ => show ((x.toNat / 1 % 256 : Nat) : Int) = x % 256; omega
    | 1, _ => show ((x.toNat / 256 % 256 : Nat) : Int) = x / 256 % 256; omega
    | 2, _ => show ((x.toNat / 65536 % 256 : Nat) : Int) = x / 65536 % 256; omega
    | 3, _ => show ((x.toNat / 16777216 % 256 : Nat) : Int) = x / 16777216 % 256; omega
  subst this
  exact RetOwn.of ho hu
theorem fixed2_calls (x : Int) (w : World) (h0 : 0 ≤ x) (h1 : x ≤ 4294967295) : Calls Try.prog 63 #[.int .i64 x, .int .i64 2] w (RetOwn w 5 .u8 (le2 x)) := by
  refine (varFixed_calls x x.toNat 2 w (u64_of x h0 h1) (by omega)).mono ?_
  rintro e w' ⟨v, xs, rfl, ho, hl, hx, hu⟩
  have : xs = le2 x := by
    refine eq_of_getD (by rw [hl]; rfl) fun i hi => ?_
    rw [hl] at hi
    rw [hx.out i hi]
    match i, hi with
    | 0, _ => show ((x.toNat / 1 % 256 : Nat) : Int) = x % 256; omega
    | 1, _ => show ((x.toNat / 256 % 256 : Nat) : Int) = x / 256 % 256; omega
  subst this
  exact RetOwn.of ho hu

theorem lit2_wf (k : Int) (h0 : 1 ≤ k) (h1 : k ≤ 9) : ∀ x ∈ [241, k], InK .u8 x := by
  intro x hx
  rcases List.mem_cons.1 hx with rfl | hx
  · exact InK.of_u8 (by omega) (by omega)
  · rw [List.mem_singleton.1 hx]
    exact InK.of_u8 (by omega) (by omega)
/-- A frame's beginning. -/
def frmHead (k e p : Int) (b : List Int) : List Int := [[241, k], le4 e, le2 p, le2 b.length, b].flatten
theorem frmHead_len (k e p : Int) (b : List Int) : (frmHead k e p b).length = 10 + b.length := by simp [frmHead, le4_len, le2_len]; omega

theorem frm_laid {k e p : Int} {b : List Int} (h : b.length ≤ 238) : laid (laid (List.replicate 252 0) 0 (frmHead k e p b)) 248 (le4 e) = frmRaw k e p b := by
  have hl := frmHead_len k e p b
  have h1 : laid (List.replicate 252 0) 0 (frmHead k e p b) = frmHead k e p b ++ (List.replicate (238 - b.length) 0 ++ List.replicate 4 0) := by
    unfold laid
    rw [List.take_zero, List.nil_append, Nat.zero_add, List.drop_replicate, List.replicate_append_replicate, hl]
    congr 2
    omega
  have h2 : (frmHead k e p b ++ List.replicate (238 - b.length) 0).length = 248 := by rw [List.length_append, hl, List.length_replicate]; omega
  rw [h1, ← List.append_assoc]
  generalize hX : frmHead k e p b ++ List.replicate (238 - b.length) 0 = X at *
  unfold laid
  rw [List.take_append_of_le_length (by omega), List.take_of_length_le (by omega), List.drop_of_length_le (by simp [h2, le4_len]), List.append_nil, ← hX]
  simp [frmHead, frmRaw]

theorem frmRaw_wf {k e p : Int} {b : List Int} (h0 : 1 ≤ k) (h1 : k ≤ 9) (hb : ∀ x ∈ b, 0 ≤ x ∧ x < 256) : ∀ x ∈ frmRaw k e p b, InK .u8 x := fun x hx => by
  have := frmRaw_u8 (k := k) (e := e) (p := p) (by omega) (by omega) hb x hx
  exact InK.of_u8 this.1 this.2
structure EncPost (w : World) (r : List Int) (f : Int) (en : Ending) (w' : World) : Prop where mk ::
  out : ∃ v, en = .returned (.tuple #[v, .int .i64 f]) ∧ Own w' w.heap.size 5 .u8 v r ∧ Up w w'

set_option maxHeartbeats 4000000 in
theorem frmEncode_calls (k e p : Int) (A : Option Addr) (c : Nat) (b : List Int) (w : World) (h1 : Rd w .u8 A c b) (hok : FrmOk k e p b) :
    Calls Try.prog 38 #[.agg #[.int .i64 k, .int .i64 e, .int .i64 p, .slice A b.length c]] w (EncPost w (frmEnc k e p b) 0) := by
  have hlen := h1.len
  obtain ⟨hk0, hk1, he0, he1, hp0, hp1, hl⟩ := hok
  have HK := Lib.hid (frmCheck_ok (k := k) (e := e) (p := p) (b := b) ⟨hk0, hk1, he0, he1, hp0, hp1, hl⟩)
  have hu0 : Up w (w.alloc (.cells #[.int .i64 k, .int .i64 e, .int .i64 p, .slice A b.length c] 67)) := (Up.refl w).alloc _
  have hB0 := Blk.new w 67 #[.int .i64 k, .int .i64 e, .int .i64 p, .slice A b.length c]
  go_enter Try.func38, Try.ntmps38
  go_wp2_with fail
  refine (frmCheck_calls k e p A c b _ (h1.up hu0)).mono ?_
  rintro en w1 ⟨rfl, hu1⟩
  rw [HK.out]
  go_wp2_with (refine wpl_makeK 5 .u8 1 Try.underlying22 infoU8 252 rfl rfl (by omega) (by omega) ?_; intro w2 hm2 hu2 hs2)
  have hU2 := hu1.trans hu2
  have hUU := hu0.trans hU2
  have g0 := (hB0.up hU2).cell 0
  have g1 := (hB0.up hU2).cell 1
  have g2 := (hB0.up hU2).cell 2
  have g3 := (hB0.up hU2).cell 3
  simp only [List.getElem?_toArray, List.getElem?_cons_succ, List.getElem?_cons_zero] at g0 g1 g2 g3
  have hk256 : k % 256 = k := by omega
  have hG : (w.alloc (.cells #[.int .i64 k, .int .i64 e, .int .i64 p, .slice A b.length c] 67)).heap.size ≤ w1.heap.size := hu1.size
  have hGw := hu0.size
  have hb2 := h1.up hUU
  generalize w1.heap.size = G at *
  refine wp_region_tree (fun w' => Up w2 w') (.quiet 0 (.quiet 1 (.quiet 2 (.quiet 3 (.quiet 5 (.quiet 6 (.quiet 8 (.quiet 9 (.quiet 11 (.quiet 12 (.quiet 13 (.quiet 15 (.quiet 16 (.alt 4 (.alt 7 (.alt 10 (.alt 14 (.alt 17 (.alt 18 (.alt 19 (.nil) (.stop)) (.stop)) (.stop)) (.stop)) (.stop)) (.stop)) (.alt 7 (.alt 4 (.alt 10 (.alt 14 (.alt 17 (.alt 18 (.alt 19 (.nil) (.stop)) (.stop)) (.stop)) (.stop)) (.stop)) (.alt 10 (.alt 4 (.alt 14 (.alt 17 (.alt 18 (.alt 19 (.nil) (.stop)) (.stop)) (.stop)) (.stop)) (.alt 14 (.alt 4 (.alt 17 (.alt 18 (.alt 19 (.nil) (.stop)) (.stop)) (.stop)) (.stop)) (.stop))) (.stop))) (.stop)))))))))))))))) (by kernel_rfl) (by kernel_rfl) rfl (by kernel_rfl) (by kernel_rfl) ((Up.refl w2).drew) ?_
  simp only [pickT, List.getElem?_cons_succ, List.getElem?_cons_zero, Option.getD_some]
  repeat (refine tree_step rfl (fun K hK => ?_); go_big_quiet_step ((intro _; rfl)); refine wpQuiet_nil (hK _ ?_); clear hK K)
  refine tree_load ⟨w.heap.size, 0, none⟩ (.int .i64 k) (by kernel_rfl) rfl (by kernel_rfl) (fun w' h => h.cell g0) ?_
  dsimp only [Act.put]
  simp only [List.setIfInBounds_toArray, List.set_cons_zero, List.set_cons_succ]
  repeat (refine tree_step rfl (fun K hK => ?_); go_big_quiet_step ((intro _; rfl)); refine wpQuiet_nil (hK _ ?_); clear hK K)
  refine tree_load ⟨w.heap.size, 1, none⟩ (.int .i64 e) (by kernel_rfl) rfl (by kernel_rfl) (fun w' h => h.cell g1) ?_
  dsimp only [Act.put]
  simp only [List.setIfInBounds_toArray, List.set_cons_zero, List.set_cons_succ]
  repeat (refine tree_step rfl (fun K hK => ?_); go_big_quiet_step ((intro _; rfl)); refine wpQuiet_nil (hK _ ?_); clear hK K)
  refine tree_load ⟨w.heap.size, 2, none⟩ (.int .i64 p) (by kernel_rfl) rfl (by kernel_rfl) (fun w' h => h.cell g2) ?_
  dsimp only [Act.put]
  simp only [List.setIfInBounds_toArray, List.set_cons_zero, List.set_cons_succ]
  repeat (refine tree_step rfl (fun K hK => ?_); go_big_quiet_step ((intro _; rfl)); refine wpQuiet_nil (hK _ ?_); clear hK K)
  refine tree_load ⟨w.heap.size, 3, none⟩ (.slice A b.length c) (by kernel_rfl) rfl (by kernel_rfl) (fun w' h => h.cell g3) ?_
  dsimp only [Act.put]
  simp only [List.setIfInBounds_toArray, List.set_cons_zero, List.set_cons_succ]
  repeat (refine tree_step rfl (fun K hK => ?_); go_big_quiet_step ((intro _; rfl)); refine wpQuiet_nil (hK _ ?_); clear hK K)
  refine tree_load ⟨w.heap.size, 3, none⟩ (.slice A b.length c) (by kernel_rfl) rfl (by kernel_rfl) (fun w' h => h.cell g3) ?_
  dsimp only [Act.put]
  simp only [List.setIfInBounds_toArray, List.set_cons_zero, List.set_cons_succ]
  have HW : Up w2 w2.drew := (Up.refl w2).drew
  generalize w2.drew = wc at *
  refine tree_alt (fun K hK => ?_) ?_
  ·
    go_wp2_with fail
    have r4 : Rd (wc.alloc (.cells #[.int .u8 241, .int .u8 k] 5)) .u8 (some ⟨wc.heap.size, 0, none⟩) 2 [241, k] := Rd.block [241, k] (Blk.new wc _ _).out rfl rfl (by simp) (lit2_wf k hk0 hk1)
    have hS := (Up.refl wc).alloc (.cells #[.int .u8 241, .int .u8 k] 5)
    refine ⟨HW.trans hS, ?_⟩
    (try replace r19 := r19.up hS)
    (try replace r22 := r22.up hS)
    (try replace r26 := r26.up hS)
    replace HW := HW.trans hS
    clear hS
    generalize (wc.alloc (.cells #[.int .u8 241, .int .u8 k] 5)) = wn at *
    generalize wc.heap.size = G4 at *
    generalize wn = wc at *
    refine tree_do (fun K hK => ?_)
    go_wp2_with fail
    refine (fixed4_calls e wc he0 he1).mono ?_
    rintro en wc ⟨v, rfl, hv, hS⟩
    obtain ⟨B19, d19, rfl, r19⟩ := hv.rd
    clear hv
    go_wp2_with fail
    refine ⟨HW.trans hS, ?_⟩
    (try replace r4 := r4.up hS)
    (try replace r19 := r19.up hS)
    (try replace r22 := r22.up hS)
    (try replace r26 := r26.up hS)
    replace HW := HW.trans hS
    clear hS
    refine tree_do (fun K hK => ?_)
    go_wp2_with fail
    refine (fixed2_calls p wc hp0 (by omega)).mono ?_
    rintro en wc ⟨v, rfl, hv, hS⟩
    obtain ⟨B22, d22, rfl, r22⟩ := hv.rd
    clear hv
    go_wp2_with fail
    refine ⟨HW.trans hS, ?_⟩
    (try replace r4 := r4.up hS)
    (try replace r19 := r19.up hS)
    (try replace r22 := r22.up hS)
    (try replace r26 := r26.up hS)
    replace HW := HW.trans hS
    clear hS
    refine tree_do (fun K hK => ?_)
    go_wp2_with fail
    refine (fixed2_calls b.length wc (by omega) (by omega)).mono ?_
    rintro en wc ⟨v, rfl, hv, hS⟩
    obtain ⟨B26, d26, rfl, r26⟩ := hv.rd
    clear hv
    go_wp2_with fail
    refine ⟨HW.trans hS, ?_⟩
    (try replace r4 := r4.up hS)
    (try replace r19 := r19.up hS)
    (try replace r22 := r22.up hS)
    (try replace r26 := r26.up hS)
    replace HW := HW.trans hS
    clear hS
    refine tree_do (fun K hK => ?_)
    go_wp2_with fail
    have hS := (Up.refl wc).alloc (.cells #[.slice (some ⟨G4, 0, none⟩) 2 2, .slice B19 (le4 e).length d19, .slice B22 (le2 p).length d22, .slice B26 (le2 b.length).length d26, .slice A b.length c] 22)
    have HV := (((((Vals.nil (fun _ => True) (wc.alloc (.cells #[.slice (some ⟨G4, 0, none⟩) 2 2, .slice B19 (le4 e).length d19, .slice B22 (le2 p).length d22, .slice B26 (le2 b.length).length d26, .slice A b.length c] 22)) .u8).snoc (r4.up hS) rfl (fun _ _ _ => trivial)).snoc (r19.up hS) rfl (fun _ _ _ => trivial)).snoc (r22.up hS) rfl (fun _ _ _ => trivial)).snoc (r26.up hS) rfl (fun _ _ _ => trivial)).snoc (hb2.up (HW.trans hS)) rfl (fun _ _ _ => trivial)
    have hL := (RdLF.block (Blk.new wc 22 _).out trivial HV (n := 5) rfl (by simp)).rd
    clear HV r4 r19 r22 r26
    refine ⟨HW.trans hS, ?_⟩
    replace HW := HW.trans hS
    clear hS
    generalize (wc.alloc (.cells #[.slice (some ⟨G4, 0, none⟩) 2 2, .slice B19 (le4 e).length d19, .slice B22 (le2 p).length d22, .slice B26 (le2 b.length).length d26, .slice A b.length c] 22)) = wn at *
    generalize wc.heap.size = G29 at *
    generalize wn = wc at *
    refine tree_do (fun K hK => ?_)
    go_wp2_with fail
    refine (concatBytes_calls _ 5 [[241, k], le4 e, le2 p, le2 b.length, b] wc hL (by have := frmHead_len k e p b; unfold frmHead at this; omega)).mono ?_
    rintro en wc ⟨v, rfl, hv, hS⟩
    obtain ⟨B30, d30, rfl, r30⟩ := hv.rd
    clear hv hL
    have HH := Lib.hid (show [[241, k], le4 e, le2 p, le2 b.length, b].flatten = frmHead k e p b from rfl)
    rw [HH.out] at r30 ⊢
    go_wp2_with fail
    refine ⟨HW.trans hS, ?_⟩
    replace HW := HW.trans hS
    clear hS
    refine tree_do (fun K hK => ?_)
    have HHL := frmHead_len k e p b
    go_wp2_with (refine wpl_copy 5 .u8 Try.underlying22 (by kernel_rfl) w G 0 252 252 (List.replicate 252 0) rfl (hm2.up HW) (hUU.trans HW) (Nat.le_trans hGw hG) B30 _ d30 (frmHead k e p b) rfl rfl r30 (by omega) (by rw [List.length_replicate]; omega) ?_; intro w9 hm9 hU9 hbl9)
    refine ⟨trivial, ?_⟩
    refine tree_nil ?_
    have hlt : w.heap.size < G := Nat.lt_of_lt_of_le (by have := hB0.lt; exact this) hG
    have q1 : w9.cell? ⟨w.heap.size, 1, none⟩ = some (.int .i64 e) := by
      have := (((hB0.up hU2).up HW).cell 1)
      exact (hbl9.cell hlt).trans this
    go_wp2_with fail
    have HW8 := (Up.refl w9).drew
    refine wp_region_tree (fun w' => Up w9 w') (.quiet 0 (.quiet 1 (.quiet 2 (.quiet 3 (.alt 4 (.alt 5 (.nil) (.stop)) (.stop)))))) (by kernel_rfl) (by kernel_rfl) rfl (by kernel_rfl) (by kernel_rfl) (HW8) ?_
    simp only [pickT, List.getElem?_cons_succ, List.getElem?_cons_zero, Option.getD_some]
    dsimp only [Act.put]
    simp only [List.setIfInBounds_toArray, List.set_cons_zero, List.set_cons_succ]
    repeat (refine tree_step rfl (fun K hK => ?_); go_big_quiet_step ((intro _; rfl)); refine wpQuiet_nil (hK _ ?_); clear hK K)
    refine tree_load ⟨w.heap.size, 1, none⟩ (.int .i64 e) (by kernel_rfl) rfl (by kernel_rfl) (fun w' h => h.cell q1) ?_
    dsimp only [Act.put]
    simp only [List.setIfInBounds_toArray, List.set_cons_zero, List.set_cons_succ]
    generalize w9.drew = wc at *
    refine tree_do (fun K hK => ?_)
    go_wp2_with fail
    refine (fixed4_calls e wc he0 he1).mono ?_
    rintro en wc ⟨v, rfl, hv, hS⟩
    obtain ⟨B36, d36, rfl, r36⟩ := hv.rd
    clear hv
    go_wp2_with fail
    refine ⟨HW8.trans hS, ?_⟩
    replace HW8 := HW8.trans hS
    clear hS
    refine tree_do (fun K hK => ?_)
    go_wp2_with (refine wpl_copy 5 .u8 Try.underlying22 (by kernel_rfl) w G 248 4 4 (laid (List.replicate 252 0) 0 (frmHead k e p b)) rfl (hm9.up HW8) (hU9.trans HW8) (Nat.le_of_lt hlt) B36 _ d36 (le4 e) rfl rfl r36 (by rw [le4_len]; omega) (by rw [laid_len (by rw [List.length_replicate]; omega), List.length_replicate, le4_len]; omega) ?_; intro w10 hm10 hU10 hbl10)
    refine ⟨trivial, ?_⟩
    refine tree_nil ?_
    rw [frm_laid hl] at hm10
    have HRL := frmRaw_len (k := k) (e := e) (p := p) hl
    go_wp2_with fail
    refine (crcMark_n (l := frmRaw k e p b) (Rd.of_cells hm10 HRL.symm (by omega) (frmRaw_wf hk0 hk1 (hb2.u8))) (by omega) HRL.symm).mono ?_
    rintro en w11 ⟨v, rfl, hv, hS⟩
    go_wp2_with fail
    go_ret2
    exact ⟨_, rfl, hv.mono hU10.size, hU10.trans hS⟩
  refine tree_do (fun K hK => ?_)
  go_wp2_with fail
  refine (fixed4_calls e wc he0 he1).mono ?_
  rintro en wc ⟨v, rfl, hv, hS⟩
  obtain ⟨B19, d19, rfl, r19⟩ := hv.rd
  clear hv
  go_wp2_with fail
  refine ⟨HW.trans hS, ?_⟩
  (try replace r4 := r4.up hS)
  (try replace r19 := r19.up hS)
  (try replace r22 := r22.up hS)
  (try replace r26 := r26.up hS)
  replace HW := HW.trans hS
  clear hS
  refine tree_alt (fun K hK => ?_) ?_
  ·
    go_wp2_with fail
    have r4 : Rd (wc.alloc (.cells #[.int .u8 241, .int .u8 k] 5)) .u8 (some ⟨wc.heap.size, 0, none⟩) 2 [241, k] := Rd.block [241, k] (Blk.new wc _ _).out rfl rfl (by simp) (lit2_wf k hk0 hk1)
    have hS := (Up.refl wc).alloc (.cells #[.int .u8 241, .int .u8 k] 5)
    refine ⟨HW.trans hS, ?_⟩
    (try replace r19 := r19.up hS)
    (try replace r22 := r22.up hS)
    (try replace r26 := r26.up hS)
    replace HW := HW.trans hS
    clear hS
    generalize (wc.alloc (.cells #[.int .u8 241, .int .u8 k] 5)) = wn at *
    generalize wc.heap.size = G4 at *
    generalize wn = wc at *
    refine tree_do (fun K hK => ?_)
    go_wp2_with fail
    refine (fixed2_calls p wc hp0 (by omega)).mono ?_
    rintro en wc ⟨v, rfl, hv, hS⟩
    obtain ⟨B22, d22, rfl, r22⟩ := hv.rd
    clear hv
    go_wp2_with fail
    refine ⟨HW.trans hS, ?_⟩
    (try replace r4 := r4.up hS)
    (try replace r19 := r19.up hS)
    (try replace r22 := r22.up hS)
    (try replace r26 := r26.up hS)
    replace HW := HW.trans hS
    clear hS
    refine tree_do (fun K hK => ?_)
    go_wp2_with fail
    refine (fixed2_calls b.length wc (by omega) (by omega)).mono ?_
    rintro en wc ⟨v, rfl, hv, hS⟩
    obtain ⟨B26, d26, rfl, r26⟩ := hv.rd
    clear hv
    go_wp2_with fail
    refine ⟨HW.trans hS, ?_⟩
    (try replace r4 := r4.up hS)
    (try replace r19 := r19.up hS)
    (try replace r22 := r22.up hS)
    (try replace r26 := r26.up hS)
    replace HW := HW.trans hS
    clear hS
    refine tree_do (fun K hK => ?_)
    go_wp2_with fail
    have hS := (Up.refl wc).alloc (.cells #[.slice (some ⟨G4, 0, none⟩) 2 2, .slice B19 (le4 e).length d19, .slice B22 (le2 p).length d22, .slice B26 (le2 b.length).length d26, .slice A b.length c] 22)
    have HV := (((((Vals.nil (fun _ => True) (wc.alloc (.cells #[.slice (some ⟨G4, 0, none⟩) 2 2, .slice B19 (le4 e).length d19, .slice B22 (le2 p).length d22, .slice B26 (le2 b.length).length d26, .slice A b.length c] 22)) .u8).snoc (r4.up hS) rfl (fun _ _ _ => trivial)).snoc (r19.up hS) rfl (fun _ _ _ => trivial)).snoc (r22.up hS) rfl (fun _ _ _ => trivial)).snoc (r26.up hS) rfl (fun _ _ _ => trivial)).snoc (hb2.up (HW.trans hS)) rfl (fun _ _ _ => trivial)
    have hL := (RdLF.block (Blk.new wc 22 _).out trivial HV (n := 5) rfl (by simp)).rd
    clear HV r4 r19 r22 r26
    refine ⟨HW.trans hS, ?_⟩
    replace HW := HW.trans hS
    clear hS
    generalize (wc.alloc (.cells #[.slice (some ⟨G4, 0, none⟩) 2 2, .slice B19 (le4 e).length d19, .slice B22 (le2 p).length d22, .slice B26 (le2 b.length).length d26, .slice A b.length c] 22)) = wn at *
    generalize wc.heap.size = G29 at *
    generalize wn = wc at *
    refine tree_do (fun K hK => ?_)
    go_wp2_with fail
    refine (concatBytes_calls _ 5 [[241, k], le4 e, le2 p, le2 b.length, b] wc hL (by have := frmHead_len k e p b; unfold frmHead at this; omega)).mono ?_
    rintro en wc ⟨v, rfl, hv, hS⟩
    obtain ⟨B30, d30, rfl, r30⟩ := hv.rd
    clear hv hL
    have HH := Lib.hid (show [[241, k], le4 e, le2 p, le2 b.length, b].flatten = frmHead k e p b from rfl)
    rw [HH.out] at r30 ⊢
    go_wp2_with fail
    refine ⟨HW.trans hS, ?_⟩
    replace HW := HW.trans hS
    clear hS
    refine tree_do (fun K hK => ?_)
    have HHL := frmHead_len k e p b
    go_wp2_with (refine wpl_copy 5 .u8 Try.underlying22 (by kernel_rfl) w G 0 252 252 (List.replicate 252 0) rfl (hm2.up HW) (hUU.trans HW) (Nat.le_trans hGw hG) B30 _ d30 (frmHead k e p b) rfl rfl r30 (by omega) (by rw [List.length_replicate]; omega) ?_; intro w9 hm9 hU9 hbl9)
    refine ⟨trivial, ?_⟩
    refine tree_nil ?_
    have hlt : w.heap.size < G := Nat.lt_of_lt_of_le (by have := hB0.lt; exact this) hG
    have q1 : w9.cell? ⟨w.heap.size, 1, none⟩ = some (.int .i64 e) := by
      have := (((hB0.up hU2).up HW).cell 1)
      exact (hbl9.cell hlt).trans this
    go_wp2_with fail
    have HW8 := (Up.refl w9).drew
    refine wp_region_tree (fun w' => Up w9 w') (.quiet 0 (.quiet 1 (.quiet 2 (.quiet 3 (.alt 4 (.alt 5 (.nil) (.stop)) (.stop)))))) (by kernel_rfl) (by kernel_rfl) rfl (by kernel_rfl) (by kernel_rfl) (HW8) ?_
    simp only [pickT, List.getElem?_cons_succ, List.getElem?_cons_zero, Option.getD_some]
    dsimp only [Act.put]
    simp only [List.setIfInBounds_toArray, List.set_cons_zero, List.set_cons_succ]
    repeat (refine tree_step rfl (fun K hK => ?_); go_big_quiet_step ((intro _; rfl)); refine wpQuiet_nil (hK _ ?_); clear hK K)
    refine tree_load ⟨w.heap.size, 1, none⟩ (.int .i64 e) (by kernel_rfl) rfl (by kernel_rfl) (fun w' h => h.cell q1) ?_
    dsimp only [Act.put]
    simp only [List.setIfInBounds_toArray, List.set_cons_zero, List.set_cons_succ]
    generalize w9.drew = wc at *
    refine tree_do (fun K hK => ?_)
    go_wp2_with fail
    refine (fixed4_calls e wc he0 he1).mono ?_
    rintro en wc ⟨v, rfl, hv, hS⟩
    obtain ⟨B36, d36, rfl, r36⟩ := hv.rd
    clear hv
    go_wp2_with fail
    refine ⟨HW8.trans hS, ?_⟩
    replace HW8 := HW8.trans hS
    clear hS
    refine tree_do (fun K hK => ?_)
    go_wp2_with (refine wpl_copy 5 .u8 Try.underlying22 (by kernel_rfl) w G 248 4 4 (laid (List.replicate 252 0) 0 (frmHead k e p b)) rfl (hm9.up HW8) (hU9.trans HW8) (Nat.le_of_lt hlt) B36 _ d36 (le4 e) rfl rfl r36 (by rw [le4_len]; omega) (by rw [laid_len (by rw [List.length_replicate]; omega), List.length_replicate, le4_len]; omega) ?_; intro w10 hm10 hU10 hbl10)
    refine ⟨trivial, ?_⟩
    refine tree_nil ?_
    rw [frm_laid hl] at hm10
    have HRL := frmRaw_len (k := k) (e := e) (p := p) hl
    go_wp2_with fail
    refine (crcMark_n (l := frmRaw k e p b) (Rd.of_cells hm10 HRL.symm (by omega) (frmRaw_wf hk0 hk1 (hb2.u8))) (by omega) HRL.symm).mono ?_
    rintro en w11 ⟨v, rfl, hv, hS⟩
    go_wp2_with fail
    go_ret2
    exact ⟨_, rfl, hv.mono hU10.size, hU10.trans hS⟩
  refine tree_do (fun K hK => ?_)
  go_wp2_with fail
  refine (fixed2_calls p wc hp0 (by omega)).mono ?_
  rintro en wc ⟨v, rfl, hv, hS⟩
  obtain ⟨B22, d22, rfl, r22⟩ := hv.rd
  clear hv
  go_wp2_with fail
  refine ⟨HW.trans hS, ?_⟩
  (try replace r4 := r4.up hS)
  (try replace r19 := r19.up hS)
  (try replace r22 := r22.up hS)
  (try replace r26 := r26.up hS)
  replace HW := HW.trans hS
  clear hS
  refine tree_alt (fun K hK => ?_) ?_
  ·
    go_wp2_with fail
    have r4 : Rd (wc.alloc (.cells #[.int .u8 241, .int .u8 k] 5)) .u8 (some ⟨wc.heap.size, 0, none⟩) 2 [241, k] := Rd.block [241, k] (Blk.new wc _ _).out rfl rfl (by simp) (lit2_wf k hk0 hk1)
    have hS := (Up.refl wc).alloc (.cells #[.int .u8 241, .int .u8 k] 5)
    refine ⟨HW.trans hS, ?_⟩
    (try replace r19 := r19.up hS)
    (try replace r22 := r22.up hS)
    (try replace r26 := r26.up hS)
    replace HW := HW.trans hS
    clear hS
    generalize (wc.alloc (.cells #[.int .u8 241, .int .u8 k] 5)) = wn at *
    generalize wc.heap.size = G4 at *
    generalize wn = wc at *
    refine tree_do (fun K hK => ?_)
    go_wp2_with fail
    refine (fixed2_calls b.length wc (by omega) (by omega)).mono ?_
    rintro en wc ⟨v, rfl, hv, hS⟩
    obtain ⟨B26, d26, rfl, r26⟩ := hv.rd
    clear hv
    go_wp2_with fail
    refine ⟨HW.trans hS, ?_⟩
    (try replace r4 := r4.up hS)
    (try replace r19 := r19.up hS)
    (try replace r22 := r22.up hS)
    (try replace r26 := r26.up hS)
    replace HW := HW.trans hS
    clear hS
    refine tree_do (fun K hK => ?_)
    go_wp2_with fail
    have hS := (Up.refl wc).alloc (.cells #[.slice (some ⟨G4, 0, none⟩) 2 2, .slice B19 (le4 e).length d19, .slice B22 (le2 p).length d22, .slice B26 (le2 b.length).length d26, .slice A b.length c] 22)
    have HV := (((((Vals.nil (fun _ => True) (wc.alloc (.cells #[.slice (some ⟨G4, 0, none⟩) 2 2, .slice B19 (le4 e).length d19, .slice B22 (le2 p).length d22, .slice B26 (le2 b.length).length d26, .slice A b.length c] 22)) .u8).snoc (r4.up hS) rfl (fun _ _ _ => trivial)).snoc (r19.up hS) rfl (fun _ _ _ => trivial)).snoc (r22.up hS) rfl (fun _ _ _ => trivial)).snoc (r26.up hS) rfl (fun _ _ _ => trivial)).snoc (hb2.up (HW.trans hS)) rfl (fun _ _ _ => trivial)
    have hL := (RdLF.block (Blk.new wc 22 _).out trivial HV (n := 5) rfl (by simp)).rd
    clear HV r4 r19 r22 r26
    refine ⟨HW.trans hS, ?_⟩
    replace HW := HW.trans hS
    clear hS
    generalize (wc.alloc (.cells #[.slice (some ⟨G4, 0, none⟩) 2 2, .slice B19 (le4 e).length d19, .slice B22 (le2 p).length d22, .slice B26 (le2 b.length).length d26, .slice A b.length c] 22)) = wn at *
    generalize wc.heap.size = G29 at *
    generalize wn = wc at *
    refine tree_do (fun K hK => ?_)
    go_wp2_with fail
    refine (concatBytes_calls _ 5 [[241, k], le4 e, le2 p, le2 b.length, b] wc hL (by have := frmHead_len k e p b; unfold frmHead at this; omega)).mono ?_
    rintro en wc ⟨v, rfl, hv, hS⟩
    obtain ⟨B30, d30, rfl, r30⟩ := hv.rd
    clear hv hL
    have HH := Lib.hid (show [[241, k], le4 e, le2 p, le2 b.length, b].flatten = frmHead k e p b from rfl)
    rw [HH.out] at r30 ⊢
    go_wp2_with fail
    refine ⟨HW.trans hS, ?_⟩
    replace HW := HW.trans hS
    clear hS
    refine tree_do (fun K hK => ?_)
    have HHL := frmHead_len k e p b
    go_wp2_with (refine wpl_copy 5 .u8 Try.underlying22 (by kernel_rfl) w G 0 252 252 (List.replicate 252 0) rfl (hm2.up HW) (hUU.trans HW) (Nat.le_trans hGw hG) B30 _ d30 (frmHead k e p b) rfl rfl r30 (by omega) (by rw [List.length_replicate]; omega) ?_; intro w9 hm9 hU9 hbl9)
    refine ⟨trivial, ?_⟩
    refine tree_nil ?_
    have hlt : w.heap.size < G := Nat.lt_of_lt_of_le (by have := hB0.lt; exact this) hG
    have q1 : w9.cell? ⟨w.heap.size, 1, none⟩ = some (.int .i64 e) := by
      have := (((hB0.up hU2).up HW).cell 1)
      exact (hbl9.cell hlt).trans this
    go_wp2_with fail
    have HW8 := (Up.refl w9).drew
    refine wp_region_tree (fun w' => Up w9 w') (.quiet 0 (.quiet 1 (.quiet 2 (.quiet 3 (.alt 4 (.alt 5 (.nil) (.stop)) (.stop)))))) (by kernel_rfl) (by kernel_rfl) rfl (by kernel_rfl) (by kernel_rfl) (HW8) ?_
    simp only [pickT, List.getElem?_cons_succ, List.getElem?_cons_zero, Option.getD_some]
    dsimp only [Act.put]
    simp only [List.setIfInBounds_toArray, List.set_cons_zero, List.set_cons_succ]
    repeat (refine tree_step rfl (fun K hK => ?_); go_big_quiet_step ((intro _; rfl)); refine wpQuiet_nil (hK _ ?_); clear hK K)
    refine tree_load ⟨w.heap.size, 1, none⟩ (.int .i64 e) (by kernel_rfl) rfl (by kernel_rfl) (fun w' h => h.cell q1) ?_
    dsimp only [Act.put]
    simp only [List.setIfInBounds_toArray, List.set_cons_zero, List.set_cons_succ]
    generalize w9.drew = wc at *
    refine tree_do (fun K hK => ?_)
    go_wp2_with fail
    refine (fixed4_calls e wc he0 he1).mono ?_
    rintro en wc ⟨v, rfl, hv, hS⟩
    obtain ⟨B36, d36, rfl, r36⟩ := hv.rd
    clear hv
    go_wp2_with fail
    refine ⟨HW8.trans hS, ?_⟩
    replace HW8 := HW8.trans hS
    clear hS
    refine tree_do (fun K hK => ?_)
    go_wp2_with (refine wpl_copy 5 .u8 Try.underlying22 (by kernel_rfl) w G 248 4 4 (laid (List.replicate 252 0) 0 (frmHead k e p b)) rfl (hm9.up HW8) (hU9.trans HW8) (Nat.le_of_lt hlt) B36 _ d36 (le4 e) rfl rfl r36 (by rw [le4_len]; omega) (by rw [laid_len (by rw [List.length_replicate]; omega), List.length_replicate, le4_len]; omega) ?_; intro w10 hm10 hU10 hbl10)
    refine ⟨trivial, ?_⟩
    refine tree_nil ?_
    rw [frm_laid hl] at hm10
    have HRL := frmRaw_len (k := k) (e := e) (p := p) hl
    go_wp2_with fail
    refine (crcMark_n (l := frmRaw k e p b) (Rd.of_cells hm10 HRL.symm (by omega) (frmRaw_wf hk0 hk1 (hb2.u8))) (by omega) HRL.symm).mono ?_
    rintro en w11 ⟨v, rfl, hv, hS⟩
    go_wp2_with fail
    go_ret2
    exact ⟨_, rfl, hv.mono hU10.size, hU10.trans hS⟩
  refine tree_do (fun K hK => ?_)
  go_wp2_with fail
  refine (fixed2_calls b.length wc (by omega) (by omega)).mono ?_
  rintro en wc ⟨v, rfl, hv, hS⟩
  obtain ⟨B26, d26, rfl, r26⟩ := hv.rd
  clear hv
  go_wp2_with fail
  refine ⟨HW.trans hS, ?_⟩
  (try replace r4 := r4.up hS)
  (try replace r19 := r19.up hS)
  (try replace r22 := r22.up hS)
  (try replace r26 := r26.up hS)
  replace HW := HW.trans hS
  clear hS
  refine tree_do (fun K hK => ?_)
  go_wp2_with fail
  have r4 : Rd (wc.alloc (.cells #[.int .u8 241, .int .u8 k] 5)) .u8 (some ⟨wc.heap.size, 0, none⟩) 2 [241, k] := Rd.block [241, k] (Blk.new wc _ _).out rfl rfl (by simp) (lit2_wf k hk0 hk1)
  have hS := (Up.refl wc).alloc (.cells #[.int .u8 241, .int .u8 k] 5)
  refine ⟨HW.trans hS, ?_⟩
  (try replace r19 := r19.up hS)
  (try replace r22 := r22.up hS)
  (try replace r26 := r26.up hS)
  replace HW := HW.trans hS
  clear hS
  generalize (wc.alloc (.cells #[.int .u8 241, .int .u8 k] 5)) = wn at *
  generalize wc.heap.size = G4 at *
  generalize wn = wc at *
  refine tree_do (fun K hK => ?_)
  go_wp2_with fail
  have hS := (Up.refl wc).alloc (.cells #[.slice (some ⟨G4, 0, none⟩) 2 2, .slice B19 (le4 e).length d19, .slice B22 (le2 p).length d22, .slice B26 (le2 b.length).length d26, .slice A b.length c] 22)
  have HV := (((((Vals.nil (fun _ => True) (wc.alloc (.cells #[.slice (some ⟨G4, 0, none⟩) 2 2, .slice B19 (le4 e).length d19, .slice B22 (le2 p).length d22, .slice B26 (le2 b.length).length d26, .slice A b.length c] 22)) .u8).snoc (r4.up hS) rfl (fun _ _ _ => trivial)).snoc (r19.up hS) rfl (fun _ _ _ => trivial)).snoc (r22.up hS) rfl (fun _ _ _ => trivial)).snoc (r26.up hS) rfl (fun _ _ _ => trivial)).snoc (hb2.up (HW.trans hS)) rfl (fun _ _ _ => trivial)
  have hL := (RdLF.block (Blk.new wc 22 _).out trivial HV (n := 5) rfl (by simp)).rd
  clear HV r4 r19 r22 r26
  refine ⟨HW.trans hS, ?_⟩
  replace HW := HW.trans hS
  clear hS
  generalize (wc.alloc (.cells #[.slice (some ⟨G4, 0, none⟩) 2 2, .slice B19 (le4 e).length d19, .slice B22 (le2 p).length d22, .slice B26 (le2 b.length).length d26, .slice A b.length c] 22)) = wn at *
  generalize wc.heap.size = G29 at *
  generalize wn = wc at *
  refine tree_do (fun K hK => ?_)
  go_wp2_with fail
  refine (concatBytes_calls _ 5 [[241, k], le4 e, le2 p, le2 b.length, b] wc hL (by have := frmHead_len k e p b; unfold frmHead at this; omega)).mono ?_
  rintro en wc ⟨v, rfl, hv, hS⟩
  obtain ⟨B30, d30, rfl, r30⟩ := hv.rd
  clear hv hL
  have HH := Lib.hid (show [[241, k], le4 e, le2 p, le2 b.length, b].flatten = frmHead k e p b from rfl)
  rw [HH.out] at r30 ⊢
  go_wp2_with fail
  refine ⟨HW.trans hS, ?_⟩
  replace HW := HW.trans hS
  clear hS
  refine tree_do (fun K hK => ?_)
  have HHL := frmHead_len k e p b
  go_wp2_with (refine wpl_copy 5 .u8 Try.underlying22 (by kernel_rfl) w G 0 252 252 (List.replicate 252 0) rfl (hm2.up HW) (hUU.trans HW) (Nat.le_trans hGw hG) B30 _ d30 (frmHead k e p b) rfl rfl r30 (by omega) (by rw [List.length_replicate]; omega) ?_; intro w9 hm9 hU9 hbl9)
  refine ⟨trivial, ?_⟩
  refine tree_nil ?_
  have hlt : w.heap.size < G := Nat.lt_of_lt_of_le (by have := hB0.lt; exact this) hG
  have q1 : w9.cell? ⟨w.heap.size, 1, none⟩ = some (.int .i64 e) := by
    have := (((hB0.up hU2).up HW).cell 1)
    exact (hbl9.cell hlt).trans this
  go_wp2_with fail
  have HW8 := (Up.refl w9).drew
  refine wp_region_tree (fun w' => Up w9 w') (.quiet 0 (.quiet 1 (.quiet 2 (.quiet 3 (.alt 4 (.alt 5 (.nil) (.stop)) (.stop)))))) (by kernel_rfl) (by kernel_rfl) rfl (by kernel_rfl) (by kernel_rfl) (HW8) ?_
  simp only [pickT, List.getElem?_cons_succ, List.getElem?_cons_zero, Option.getD_some]
  dsimp only [Act.put]
  simp only [List.setIfInBounds_toArray, List.set_cons_zero, List.set_cons_succ]
  repeat (refine tree_step rfl (fun K hK => ?_); go_big_quiet_step ((intro _; rfl)); refine wpQuiet_nil (hK _ ?_); clear hK K)
  refine tree_load ⟨w.heap.size, 1, none⟩ (.int .i64 e) (by kernel_rfl) rfl (by kernel_rfl) (fun w' h => h.cell q1) ?_
  dsimp only [Act.put]
  simp only [List.setIfInBounds_toArray, List.set_cons_zero, List.set_cons_succ]
  generalize w9.drew = wc at *
  refine tree_do (fun K hK => ?_)
  go_wp2_with fail
  refine (fixed4_calls e wc he0 he1).mono ?_
  rintro en wc ⟨v, rfl, hv, hS⟩
  obtain ⟨B36, d36, rfl, r36⟩ := hv.rd
  clear hv
  go_wp2_with fail
  refine ⟨HW8.trans hS, ?_⟩
  replace HW8 := HW8.trans hS
  clear hS
  refine tree_do (fun K hK => ?_)
  go_wp2_with (refine wpl_copy 5 .u8 Try.underlying22 (by kernel_rfl) w G 248 4 4 (laid (List.replicate 252 0) 0 (frmHead k e p b)) rfl (hm9.up HW8) (hU9.trans HW8) (Nat.le_of_lt hlt) B36 _ d36 (le4 e) rfl rfl r36 (by rw [le4_len]; omega) (by rw [laid_len (by rw [List.length_replicate]; omega), List.length_replicate, le4_len]; omega) ?_; intro w10 hm10 hU10 hbl10)
  refine ⟨trivial, ?_⟩
  refine tree_nil ?_
  rw [frm_laid hl] at hm10
  have HRL := frmRaw_len (k := k) (e := e) (p := p) hl
  go_wp2_with fail
  refine (crcMark_n (l := frmRaw k e p b) (Rd.of_cells hm10 HRL.symm (by omega) (frmRaw_wf hk0 hk1 (hb2.u8))) (by omega) HRL.symm).mono ?_
  rintro en w11 ⟨v, rfl, hv, hS⟩
  go_wp2_with fail
  go_ret2
  exact ⟨_, rfl, hv.mono hU10.size, hU10.trans hS⟩

set_option maxHeartbeats 1000000 in
theorem frmEncode_bad (k e p : Int) (A : Option Addr) (c : Nat) (b : List Int) (w : World) (h1 : Rd w .u8 A c b) (hbad : frmCheck k e p b ≠ 0) :
    Calls Try.prog 38 #[.agg #[.int .i64 k, .int .i64 e, .int .i64 p, .slice A b.length c]] w (EncPost w [] (frmCheck k e p b)) := by
  have hu0 : Up w (w.alloc (.cells #[.int .i64 k, .int .i64 e, .int .i64 p, .slice A b.length c] 67)) := (Up.refl w).alloc _
  have HC := Lib.hid (frmCheck_calls k e p A c b _ (h1.up hu0))
  generalize frmCheck k e p b = f at *
  go_enter Try.func38, Try.ntmps38
  go_wp2_with fail
  refine HC.out.mono ?_
  rintro en w1 ⟨rfl, hu1⟩
  go_wp2_with fail
  go_ret2
  exact ⟨_, rfl, Own.nil _ _ _ _, hu0.trans hu1⟩

theorem frmEncode_all (k e p : Int) (A : Option Addr) (c : Nat) (b : List Int) (w : World) (h1 : Rd w .u8 A c b) :
    Calls Try.prog 38 #[.agg #[.int .i64 k, .int .i64 e, .int .i64 p, .slice A b.length c]] w (EncPost w (if frmCheck k e p b = 0 then frmEnc k e p b else []) (frmCheck k e p b)) := by
  by_cases h : frmCheck k e p b = 0
  · rw [if_pos h, h]
    exact frmEncode_calls k e p A c b w h1 ((frmCheck_iff _ _ _ _).1 h)
  · rw [if_neg h]
    exact frmEncode_bad k e p A c b w h1 h
end Go.Proofs.Ytehdigkjbobndaa
