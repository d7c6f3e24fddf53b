/- Several texts in one: PkCopy, PkInv. -/
import Derived.Test.YtneliajeokajbaaPkAddX
import Derived.Test.YtneliajeokajbaaPkPar
import Derived.Test.YtneliajeokajbaaCopy
import Derived.Test.YtneliajeokajbaaPkFits
import Derived.Test.YtneliajeokajbaaPkWiM
/- Layer 12: Copy, At, Set of an array. -/
namespace Go.Proofs.Ytneliajeokajbaa
open Go.RowKit
set_option maxRecDepth 100000

/-- copy(d, s) into a block known whole; nothing else changes. -/
theorem wpl_copyX {P : Program} {w : World} {ops : Array Oper} {rest : List Oper} {a : Act} {Q : Exit → Act → World → Prop} {dst : Option Tmp} {ty : TypeId} {pos : String} {after : Array Edge}
    {d s : Operand} {dT sT : TypeId} (e : Nat) (k : IntKind) (hu : P.underlying dT = some (.slice e)) (hsz : (P.info? e).map (·.size) = some 1)
    (g dn dc : Nat) (xs : List Int) (hd : a.eval d = .slice (some ⟨g, 0, none⟩) dn dc) (hg : Blk w g e (cellsOf k xs))
    (A : Option Addr) (n c : Nat) (ys : List Int) (hs : a.eval s = .slice A n c) (hn : n = ys.length) (hr : Rd w k A c ys) (hl : dn = ys.length) (hf : ys.length = xs.length)
    (h : ∀ w', Blk w' g e (cellsOf k ys) → UpX (fun b => b = g) w w' → wpList P ops Q rest (a.put dst (goInt ys.length)) w') :
    wpList P ops Q ({ dst := dst, op := .call { callee := .builtin .copy, args := #[d, s], argTypes := #[dT, sT] }, type := ty, pos := pos, after := after, guard := none } :: rest) a w := by
  subst hn hl
  have hla : laid xs 0 ys = ys := by unfold laid; simp [hf]
  by_cases h0 : ys.length = 0
  · have hx : ys = [] := List.eq_nil_of_length_eq_zero h0
    have hx2 : xs = [] := List.eq_nil_of_length_eq_zero (by omega)
    subst hx hx2
    refine wpList_copy_nothing rfl d s dT sT rfl e hu hsz _ _ _ _ _ _ hd hs (by simp) ?_
    exact h w hg (UpX.refl _ _)
  · cases A with
    | none => have := hr.non rfl; omega
    | some ad =>
      refine wpList_copy_own rfl d s dT sT rfl e hu hsz g 0 _ _ ad _ _ hd hs (xs.map (Value.int k)).toArray e hg.out (ys.map (Value.int k)) (by simp) (fun j v hj => ?_) (by simp [hf]) (by simp [Value.oneCell']) ?_
      · obtain ⟨hj1, rfl⟩ := List.getElem?_eq_some_iff.1 hj
        rw [List.length_map] at hj1
        have := hr.cell ad rfl j hj1
        simpa [List.getD_eq_getElem?_getD, hj1] using this
      · rw [List.length_map]
        refine h _ ⟨?_⟩ ⟨rfl, rfl, rfl, by simp, fun b _ hne => setRow_other w g b _ hne⟩
        rw [show (List.take 0 (xs.map (Value.int k)).toArray.toList ++ (ys.map (Value.int k) ++ List.drop (0 + ys.length) (xs.map (Value.int k)).toArray.toList)) = ys.map (Value.int k) by simp [hf]]
        exact setRow_heap w g _ _ e _ hg.out

set_option maxHeartbeats 4000000 in
theorem packedCopy_calls (g base W n : Nat) (ws : List Int) (w : World) (ha : PArr w g base W n ws) (hl : ws.length ≤ 40000) :
    Calls Try.prog 43 #[.pointer (some ⟨g, 0, none⟩)] w fun e w' => ∃ g' A' c', e = .returned (.pointer (some ⟨g', 0, none⟩)) ∧ w.heap.size ≤ g' ∧ Blk w' g' 119 #[.int .i64 W, .int .i64 n, .slice A' ws.length c'] ∧ Own w' w.heap.size 71 .u64 (.slice A' ws.length c') ws ∧ Up w w' := by
  obtain ⟨A, c, hb, ho⟩ := ha
  have g0 : w.cell? ⟨g, 0, none⟩ = some (.int .i64 W) := hb.cell 0
  have g1 : w.cell? ⟨g, 1, none⟩ = some (.int .i64 n) := hb.cell 1
  have g2 : w.cell? ⟨g, 2, none⟩ = some (.slice A ws.length c) := hb.cell 2
  have hro : Rd w .u64 A c ws := by
    obtain ⟨A', c', e, hr⟩ := ho.rd
    cases e
    exact hr
  have HWF := Lib.hid ho.wf
  obtain ⟨L, hL⟩ : ∃ L, ws.length = L := ⟨_, rfl⟩
  rw [hL] at g2 hl
  have HL := Lib.hid hL
  clear hL ho hb
  go_enter Try.func43, Try.ntmps43
  go_wp2_with fail
  refine wp_region_tree (fun w' => Up w w') (.quiet 0 (.quiet 1 (.quiet 2 (.quiet 3 (.quiet 4 (.quiet 5 (.quiet 6 (.quiet 7 (.quiet 8 (.quiet 9 (.quiet 10 (.quiet 11 (.quiet 12 (.alt 13 (.quiet 14 (.alt 15 (.quiet 16 (.nil)) (.stop))) (.stop))))))))))))))) (by kernel_rfl) (by kernel_rfl) rfl (by kernel_rfl) (by kernel_rfl) ((Up.refl w).drew) ?_
  simp only [pickT, List.getElem?_cons_succ, List.getElem?_cons_zero, Option.getD_some]
  repeat (refine tree_step rfl (fun K hK => ?_); go_big_quiet_step ((intro _; rfl)); refine wpQuiet_nil (hK _ ?_); clear hK K)
  refine tree_load ⟨g, 0, none⟩ (.int .i64 W) (by kernel_rfl) rfl (by kernel_rfl) (fun w' h => h.cell g0) ?_
  dsimp only [Act.put]
  simp only [List.setIfInBounds_toArray, List.set_cons_zero, List.set_cons_succ]
  repeat (refine tree_step rfl (fun K hK => ?_); go_big_quiet_step ((intro _; rfl)); refine wpQuiet_nil (hK _ ?_); clear hK K)
  refine tree_load ⟨g, 1, none⟩ (.int .i64 n) (by kernel_rfl) rfl (by kernel_rfl) (fun w' h => h.cell g1) ?_
  dsimp only [Act.put]
  simp only [List.setIfInBounds_toArray, List.set_cons_zero, List.set_cons_succ]
  repeat (refine tree_step rfl (fun K hK => ?_); go_big_quiet_step ((intro _; rfl)); refine wpQuiet_nil (hK _ ?_); clear hK K)
  refine tree_load ⟨g, 2, none⟩ (.slice A L c) (by kernel_rfl) rfl (by kernel_rfl) (fun w' h => h.cell g2) ?_
  dsimp only [Act.put]
  simp only [List.setIfInBounds_toArray, List.set_cons_zero, List.set_cons_succ]
  repeat (refine tree_step rfl (fun K hK => ?_); go_big_quiet_step ((intro _; rfl)); refine wpQuiet_nil (hK _ ?_); clear hK K)
  refine tree_do (fun K hK => ?_)
  refine wpl_makeK 71 .u64 8 Try.underlying117 infoU64 L rfl rfl (by omega) (by omega) ?_
  intro wn hbO hun hsn
  have hsz1' : w.drew.heap.size = w.heap.size := rfl
  rw [hsz1'] at hbO hsn ⊢
  clear hsz1'
  go_wp2_with fail
  refine ⟨((Up.refl w).drew).trans hun, ?_⟩
  dsimp only [Act.put]
  simp only [List.setIfInBounds_toArray, List.set_cons_zero, List.set_cons_succ]
  repeat (refine tree_step rfl (fun K hK => ?_); go_big_quiet_step ((intro _; rfl)); refine wpQuiet_nil (hK _ ?_); clear hK K)
  refine tree_do (fun K hK => ?_)
  go_wp2_with fail
  have hua : Up wn (wn.alloc (.cells #[.int .i64 W, .int .i64 n, .slice (some ⟨w.heap.size, 0, none⟩) L L] 119)) := (Up.refl wn).alloc _
  have hg := Blk.new wn 119 #[.int .i64 W, .int .i64 n, .slice (some ⟨w.heap.size, 0, none⟩) L L]
  have hU2 : Up w (wn.alloc (.cells #[.int .i64 W, .int .i64 n, .slice (some ⟨w.heap.size, 0, none⟩) L L] 119)) := (((Up.refl w).drew).trans hun).trans hua
  have hbO2 := hbO.up hua
  refine ⟨hU2, ?_⟩
  generalize (wn.alloc (.cells #[.int .i64 W, .int .i64 n, .slice (some ⟨w.heap.size, 0, none⟩) L L] 119)) = w2 at *
  generalize wn.heap.size = g' at *
  generalize hOe : w.heap.size = O at *
  subst hsn
  clear hua hbO hun
  repeat (refine tree_step rfl (fun K hK => ?_); go_big_quiet_step ((intro _; rfl)); refine wpQuiet_nil (hK _ ?_); clear hK K)
  refine tree_nil ?_
  go_wp2_with fail
  have c2 : w2.cell? ⟨O + 1, 2, none⟩ = some (.slice (some ⟨O, 0, none⟩) L L) := hg.cell 2
  refine wp_region_tree (fun w' => Up w2 w') (.quiet 0 (.quiet 1 (.quiet 2 (.quiet 3 (.quiet 4 (.quiet 5 (.quiet 6 (.quiet 7 (.alt 8 (.nil) (.stop)))))))))) (by kernel_rfl) (by kernel_rfl) rfl (by kernel_rfl) (by kernel_rfl) ((Up.refl w2).drew) ?_
  simp only [pickT, List.getElem?_cons_succ, List.getElem?_cons_zero, Option.getD_some]
  repeat (refine tree_step rfl (fun K hK => ?_); go_big_quiet_step ((intro _; rfl)); refine wpQuiet_nil (hK _ ?_); clear hK K)
  refine tree_load ⟨O + 1, 2, none⟩ (.slice (some ⟨O, 0, none⟩) L L) (by kernel_rfl) rfl (by kernel_rfl) (fun w' h => h.cell c2) ?_
  dsimp only [Act.put]
  simp only [List.setIfInBounds_toArray, List.set_cons_zero, List.set_cons_succ]
  repeat (refine tree_step rfl (fun K hK => ?_); go_big_quiet_step ((intro _; rfl)); refine wpQuiet_nil (hK _ ?_); clear hK K)
  refine tree_load ⟨g, 2, none⟩ (.slice A L c) (by kernel_rfl) rfl (by kernel_rfl) (fun w' h => (hU2.trans h).cell g2) ?_
  dsimp only [Act.put]
  simp only [List.setIfInBounds_toArray, List.set_cons_zero, List.set_cons_succ]
  repeat (refine tree_step rfl (fun K hK => ?_); go_big_quiet_step ((intro _; rfl)); refine wpQuiet_nil (hK _ ?_); clear hK K)
  refine tree_do (fun K hK => ?_)
  have hud : Up w2 w2.drew := (Up.refl w2).drew
  go_wp2_with (refine wpl_copyX 71 .u64 Try.underlying117 (by kernel_rfl) O L L (List.replicate L 0) rfl (hbO2.up hud) A L c ws rfl HL.out.symm ((hro.up hU2).up hud) HL.out.symm (by rw [HL.out]; simp) ?_; intro w3 hb3 hx3)
  refine ⟨trivial, ?_⟩
  refine tree_nil ?_
  go_wp2_with fail
  go_ret
  exact ⟨O + 1, some ⟨O, 0, none⟩, L, by rfl, by omega, by rw [HL.out]; exact (hg.up hud).upx hx3 (by omega), by rw [HL.out]; exact Own.of_cells hb3 (by omega) HL.out.symm (by rw [HL.out]; omega) HWF.out, (hU2.trans hud).thenx hx3 fun i hi e => by omega⟩

set_option maxHeartbeats 2000000 in
theorem packedAt_in (g base W : Nat) (ws l : List Int) (i : Nat) (w : World) (ha : PArr w g base W l.length ws) (hk : PkOk W l.length ws l) (h1 : 1 ≤ W) (h2 : W ≤ 31) (hn : l.length ≤ 65536) (hi : i < l.length) :
    Calls Try.prog 48 #[.pointer (some ⟨g, 0, none⟩), .int .i64 i] w fun e w' => e = .returned (.tuple #[.int .i64 (l.getD i 0), .int .i64 0]) ∧ Qt w w' := by
  have hws : W * i + W ≤ 64 * ws.length := by
    have h3 : W * (i + 1) ≤ W * l.length := Nat.mul_le_mul_left _ hi
    rw [Nat.mul_add, Nat.mul_one] at h3
    have := hk.size
    omega
  have HG := Lib.hid (packedGet_calls g base W l.length i ws w ha h1 h2 (by omega) hws)
  have HK := Lib.hid fun r hr hb => (hk.get h1 hi hr hb : ((r : Nat) : Int) = l.getD i 0)
  obtain ⟨A, c, hb, _⟩ := ha
  have g1 : w.cell? ⟨g, 1, none⟩ = some (.int .i64 l.length) := hb.cell 1
  clear hb hws hk
  generalize l.getD i 0 = v at *
  generalize l.length = n at *
  go_enter Try.func48, Try.ntmps48
  go_wp2_with fail
  refine (HG.out).mono ?_
  rintro en w1 ⟨r, rfl, hr, hbits, hq⟩
  have HV := Lib.hid (HK.out r hr hbits)
  clear HG HK hbits
  go_wp2_with fail
  go_ret2
  exact ⟨by rw [← HV.out]; rfl, hq⟩
set_option maxHeartbeats 2000000 in
theorem packedAt_out (g base W n : Nat) (ws : List Int) (i : Int) (w : World) (ha : PArr w g base W n ws) (hi : ¬ (0 ≤ i ∧ i < (n : Int))) :
    Calls Try.prog 48 #[.pointer (some ⟨g, 0, none⟩), .int .i64 i] w fun e w' => e = .returned (.tuple #[.int .i64 0, .int .i64 10]) ∧ w' = w := by
  obtain ⟨A, c, hb, _⟩ := ha
  have g1 : w.cell? ⟨g, 1, none⟩ = some (.int .i64 n) := hb.cell 1
  clear hb
  by_cases h0 : i < 0
  · clear hi
    go_enter Try.func48, Try.ntmps48
    go_wp2_with fail
    go_ret2
    exact ⟨rfl, rfl⟩
  · have hd0 : decide (i < 0) = false := decide_eq_false h0
    have h00 : 0 ≤ i := by omega
    have hin : (n : Int) ≤ i := by omega
    clear hi h0
    go_enter Try.func48, Try.ntmps48
    go_wp2_with fail
    go_ret2
    exact ⟨rfl, rfl⟩
theorem PkOk.put {W : Nat} {ws ws' l : List Int} {i v : Nat} (h : PkOk W l.length ws l) (h1 : 1 ≤ W) (hi : i < l.length) (hv : v < 2 ^ W) (hl : ws'.length = ws.length) (hb : ∀ b, wbit ws' b = if W * i ≤ b ∧ b < W * i + W then v.testBit (b - W * i) else wbit ws b) : PkOk W l.length ws' (l.set i (v : Int)) := by
  have hWi : W * i + W ≤ W * l.length := by
    have h3 : W * (i + 1) ≤ W * l.length := Nat.mul_le_mul_left _ hi
    rwa [Nat.mul_add, Nat.mul_one] at h3
  refine ⟨by rw [List.length_set], by rw [hl, h.size], fun x hx => ?_, fun b => ?_⟩
  · rcases List.mem_or_eq_of_mem_set hx with h5 | rfl
    · exact h.fit x h5
    · exact ⟨by omega, by exact_mod_cast hv⟩
  · rw [hb, h.bits]
    have hm := Nat.div_add_mod b W
    have hr := Nat.mod_lt b (show 0 < W by omega)
    by_cases e : b / W = i
    · rw [e] at hm
      rw [if_pos (show W * i ≤ b ∧ b < W * i + W by omega), if_pos (show b < W * l.length by omega), e, show b - W * i = b % W by omega]
      rw [List.getD_eq_getElem?_getD, List.getElem?_set_self hi]
      simp
    · have hne : ¬ (W * i ≤ b ∧ b < W * i + W) := fun hh => e (by
        rw [Nat.div_eq_of_lt_le] <;> first | (rw [Nat.mul_comm]; omega) | (rw [Nat.mul_comm, Nat.mul_add, Nat.mul_one]; omega))
      rw [if_neg hne]
      have hg : (l.set i (v : Int)).getD (b / W) 0 = l.getD (b / W) 0 := by
        rw [List.getD_eq_getElem?_getD, List.getD_eq_getElem?_getD, List.getElem?_set_ne (fun h9 => e h9.symm)]
      rw [hg]

set_option maxHeartbeats 4000000 in
theorem packedSet_ok (g base W : Nat) (ws l : List Int) (A : Option Addr) (c i v : Nat) (w : World) (hb : Blk w g 119 #[.int .i64 W, .int .i64 l.length, .slice A ws.length c]) (ho : Own w base 71 .u64 (.slice A ws.length c) ws) (hk : PkOk W l.length ws l) (h1 : 1 ≤ W) (h2 : W ≤ 31) (hn : l.length ≤ 65536) (hi : i < l.length) (hf : fitB W [(v : Int)] = true) :
    Calls Try.prog 46 #[.pointer (some ⟨g, 0, none⟩), .int .i64 i, .int .i64 v] w fun e w' => e = .returned (.int .i64 0) ∧ (∃ ws', Blk w' g 119 #[.int .i64 W, .int .i64 l.length, .slice A ws'.length c] ∧ Own w' base 71 .u64 (.slice A ws'.length c) ws' ∧ PkOk W l.length ws' (l.set i (v : Int))) ∧ UpX (fun b => (Value.slice A 0 c).ownBlock = some b) w w' := by
  have hws : W * i + W ≤ 64 * ws.length := by
    have h3 : W * (i + 1) ≤ W * l.length := Nat.mul_le_mul_left _ hi
    rw [Nat.mul_add, Nat.mul_one] at h3
    have := hk.size
    omega
  have hv : v < 2 ^ W := by
    have h3 : (v : Int) < 2 ^ W := (fit1_get hf 0 (by simp)).2
    exact_mod_cast h3
  have hv31 : v < 2147483648 := Nat.lt_of_lt_of_le hv (Nat.pow_le_pow_right (by decide) h2)
  have g0 : w.cell? ⟨g, 0, none⟩ = some (.int .i64 W) := hb.cell 0
  have g1 : w.cell? ⟨g, 1, none⟩ = some (.int .i64 l.length) := hb.cell 1
  have hiv : InK .i64 (v : Int) := InK.of_i64 (by omega) (by omega)
  have hr1 := rd_one w .i64 3 (v : Int) hiv
  have hua : Up w (w.alloc (.cells #[.int .i64 v] 3)) := (Up.refl w).alloc _
  have HF := Lib.hid hf
  have HK := Lib.hid (fun ws' hl hb' => hk.put (ws' := ws') h1 hi hv hl hb')
  have HV := Lib.hid hv
  have HO := Lib.hid ho
  have HB := Lib.hid hb
  clear hf hk hv ho hb
  go_enter Try.func46, Try.ntmps46
  go_wp2_with fail
  refine (packedFits_calls _ 1 [(v : Int)] W _ hr1 h2).mono ?_
  rw [HF.out]
  rintro en w1 ⟨rfl, hu1⟩
  have hU := hua.trans hu1
  clear hr1 hua hu1
  have HP := Lib.hid (packedPutX_calls g base W l.length i v ws A c w1 (HB.out.up hU) (HO.out.up hU) h1 h2 (by omega) HV.out hws)
  go_wp2_with fail
  refine (HP.out).mono ?_
  rintro en w2 ⟨rfl, ⟨ws', ⟨hb2, ho2⟩, hl2, hbits⟩, hx⟩
  have HL := Lib.hid hl2
  clear HP hl2
  go_wp2_with fail
  go_ret
  exact ⟨rfl, ⟨ws', hb2, ho2, HK.out ws' HL.out hbits⟩, (hU.x _).trans hx⟩
set_option maxHeartbeats 4000000 in
theorem packedSet_bad (g base W n : Nat) (ws : List Int) (i v : Int) (w : World) (ha : PArr w g base W n ws) (h2 : W ≤ 31) (hv : InK .i64 v) (hbad : ¬ (0 ≤ i ∧ i < (n : Int)) ∨ fitB W [v] = false) :
    Calls Try.prog 46 #[.pointer (some ⟨g, 0, none⟩), .int .i64 i, .int .i64 v] w fun e w' => e = .returned (.int .i64 10) ∧ Up w w' := by
  obtain ⟨A, c, hb, _⟩ := ha
  have g0 : w.cell? ⟨g, 0, none⟩ = some (.int .i64 W) := hb.cell 0
  have g1 : w.cell? ⟨g, 1, none⟩ = some (.int .i64 n) := hb.cell 1
  clear hb
  by_cases h0 : i < 0
  · clear hbad
    go_enter Try.func46, Try.ntmps46
    go_wp2_with fail
    go_ret
    exact ⟨rfl, Up.refl _⟩
  · have hd0 : decide (i < 0) = false := decide_eq_false h0
    have h00 : 0 ≤ i := by omega
    by_cases hin : (n : Int) ≤ i
    · clear hbad h0
      go_enter Try.func46, Try.ntmps46
      go_wp2_with fail
      go_ret
      exact ⟨rfl, Up.refl _⟩
    · have hf : fitB W [v] = false := by rcases hbad with h | h; omega; exact h
      have hd1 : decide ((n : Int) ≤ i) = false := decide_eq_false hin
      have hlt : i < (n : Int) := by omega
      have hr1 := rd_one w .i64 3 v hv
      have hua : Up w (w.alloc (.cells #[.int .i64 v] 3)) := (Up.refl w).alloc _
      have HF := Lib.hid hf
      clear hbad hin h0 hf
      go_enter Try.func46, Try.ntmps46
      go_wp2_with fail
      refine (packedFits_calls _ 1 [v] W _ hr1 h2).mono ?_
      rw [HF.out]
      rintro en w1 ⟨rfl, hu1⟩
      have hU := hua.trans hu1
      clear hr1 hua hu1
      go_wp2_with fail
      go_ret
      exact ⟨rfl, hU⟩
end Go.Proofs.Ytneliajeokajbaa

/- Layer 12: an array, its copy, the numbers, the first numbers: what the law PackedPlays holds in hand. -/
namespace Go.Proofs.Ytneliajeokajbaa
open Go.RowKit
set_option maxRecDepth 100000

theorem PkOk.inj {W n : Nat} {ws l l' : List Int} (h1 : 1 ≤ W) (h : PkOk W n ws l) (h' : PkOk W n ws l') : l = l' := by
  refine List.ext_getElem (by rw [h.len, h'.len]) fun i hi hi' => ?_
  have hn : i < n := by rw [← h.len]; exact hi
  obtain ⟨a0, a1⟩ := h.fit _ (List.getElem_mem hi)
  obtain ⟨a, ha⟩ := Int.eq_ofNat_of_zero_le a0
  have hal : a < 2 ^ W := by rw [ha] at a1; exact_mod_cast a1
  have e1 : l.getD i 0 = (a : Int) := by rw [List.getD_eq_getElem?_getD, List.getElem?_eq_getElem hi]; exact ha
  have hWn : W * i + W ≤ W * n := by
    have h3 : W * (i + 1) ≤ W * n := Nat.mul_le_mul_left _ hn
    rwa [Nat.mul_add, Nat.mul_one] at h3
  have hb : ∀ k, k < W → a.testBit k = wbit ws (W * i + k) := fun k hk => by
    rw [h.bits, if_pos (by omega), Nat.mul_add_div (by omega), Nat.div_eq_of_lt hk, Nat.mul_add_mod, Nat.mod_eq_of_lt hk, Nat.add_zero, e1]
    rfl
  have := h'.get h1 hn hal hb
  rw [ha, this, List.getD_eq_getElem?_getD, List.getElem?_eq_getElem hi']
  rfl
/-- The array, its words in hand. -/
structure ArX (w : World) (g base W : Nat) (A : Option Addr) (c : Nat) (ws l : List Int) : Prop where
  b : Blk w g 119 #[.int .i64 W, .int .i64 l.length, .slice A ws.length c]
  o : Own w base 71 .u64 (.slice A ws.length c) ws
  k : PkOk W l.length ws l
theorem ArX.arr {w : World} {g base W : Nat} {A : Option Addr} {c : Nat} {ws l : List Int} (h : ArX w g base W A c ws l) : PArr w g base W l.length ws := ⟨A, c, h.b, h.o⟩
theorem ArX.up {w w' : World} {g base W : Nat} {A : Option Addr} {c : Nat} {ws l : List Int} (h : ArX w g base W A c ws l) (hu : Up w w') : ArX w' g base W A c ws l := ⟨h.b.up hu, h.o.up hu, h.k⟩
theorem ArX.upx {F : Nat → Prop} {w w' : World} {g base W : Nat} {A : Option Addr} {c : Nat} {ws l : List Int} (h : ArX w g base W A c ws l) (hu : UpX F w w') (h1 : ¬ F g) (h2 : ∀ b, (Value.slice A 0 c).ownBlock = some b → ¬ F b) : ArX w' g base W A c ws l :=
  ⟨h.b.upx hu h1, h.o.upx hu fun b hb => h2 b ((ob_len A 0 ws.length c c).trans hb), h.k⟩
/-- A block of arrays is no block of words, nor of numbers. -/
theorem Blk.notOwn {w : World} {g e e' base : Nat} {cs : Array Value} {k : IntKind} {v : Value} {xs : List Int} (h : Blk w g e cs) (ho : Own w base e' k v xs) (hne : e ≠ e') : ¬ v.ownBlock = some g := fun e9 => by
  have h3 := ho.typed g e9
  have h4 : Typed w e g := ⟨_, _, h.out⟩
  exact absurd (h4.ne h3) hne
/-- What the law holds in hand. -/
structure PlI (w : World) (base W g gc : Nat) (Ac : Option Addr) (cc : Nat) (wsF F : List Int) (fv : Value) (A : Option Addr) (c : Nat) (ws L : List Int) (lv : Value) : Prop where
  a : ArX w g base W A c ws L
  l : Own w base 3 .i64 lv L
  f : Own w base 3 .i64 fv F
  cp : ArX w gc base W Ac cc wsF F
  gne : g ≠ gc
  wne : ∀ b, (Value.slice A 0 c).ownBlock = some b → ¬ (Value.slice Ac 0 cc).ownBlock = some b
  lne : ∀ b, lv.ownBlock = some b → ¬ fv.ownBlock = some b
  gb : base ≤ g
theorem PlI.up {w w' : World} {base W g gc : Nat} {Ac : Option Addr} {cc : Nat} {wsF F : List Int} {fv : Value} {A : Option Addr} {c : Nat} {ws L : List Int} {lv : Value} (h : PlI w base W g gc Ac cc wsF F fv A c ws L lv) (hu : Up w w') : PlI w' base W g gc Ac cc wsF F fv A c ws L lv :=
  ⟨h.a.up hu, h.l.up hu, h.f.up hu, h.cp.up hu, h.gne, h.wne, h.lne, h.gb⟩
theorem PlI.lt {w : World} {base W g gc : Nat} {Ac : Option Addr} {cc : Nat} {wsF F : List Int} {fv : Value} {A : Option Addr} {c : Nat} {ws L : List Int} {lv : Value} (h : PlI w base W g gc Ac cc wsF F fv A c ws L lv) : g < w.heap.size ∧ gc < w.heap.size := ⟨h.a.b.lt, h.cp.b.lt⟩
/-- Behind Set: the array's words alone have changed. -/
theorem PlI.set {w w' : World} {base W g gc : Nat} {Ac : Option Addr} {cc : Nat} {wsF F : List Int} {fv : Value} {A : Option Addr} {c : Nat} {ws L : List Int} {lv : Value} (h : PlI w base W g gc Ac cc wsF F fv A c ws L lv) (hx : UpX (fun b => (Value.slice A 0 c).ownBlock = some b) w w') {ws' L' : List Int} (hn : L'.length = L.length)
    (hb : Blk w' g 119 #[.int .i64 W, .int .i64 L.length, .slice A ws'.length c]) (ho : Own w' base 71 .u64 (.slice A ws'.length c) ws') (hk : PkOk W L.length ws' L') :
    ArX w' g base W A c ws' L' ∧ Own w' base 3 .i64 lv L ∧ Own w' base 3 .i64 fv F ∧ ArX w' gc base W Ac cc wsF F := by
  have hc := fun b (hh : (Value.slice A 0 c).ownBlock = some b) => (ob_len A ws.length 0 c c).trans hh
  refine ⟨⟨by rw [hn]; exact hb, ho, by rw [hn]; exact hk⟩, h.l.upx hx fun b h1 h2 => Own.apart2 h.l h.a.o (by decide) b h1 (hc b h2), h.f.upx hx fun b h1 h2 => Own.apart2 h.f h.a.o (by decide) b h1 (hc b h2), h.cp.upx hx (fun h2 => h.cp.b.notOwn h.a.o (by decide) (hc gc h2)) fun b h1 h2 => h.wne b h2 h1⟩
/-- Behind a store into the numbers. -/
theorem PlI.put {w : World} {base W g gc : Nat} {Ac : Option Addr} {cc : Nat} {wsF F : List Int} {fv : Value} {A : Option Addr} {c : Nat} {ws L L' : List Int} {lv : Value}
    (ha : ArX w g base W A c ws L') (hl : Own w base 3 .i64 lv L) (hf : Own w base 3 .i64 fv F) (hc : ArX w gc base W Ac cc wsF F) (gne : g ≠ gc) (wne : ∀ b, (Value.slice A 0 c).ownBlock = some b → ¬ (Value.slice Ac 0 cc).ownBlock = some b) (lne : ∀ b, lv.ownBlock = some b → ¬ fv.ownBlock = some b) (gb : base ≤ g)
    {w' : World} (hx : UpX (fun b => lv.ownBlock = some b) w w') (hl' : Own w' base 3 .i64 lv L') : PlI w' base W g gc Ac cc wsF F fv A c ws L' lv :=
  ⟨ha.upx hx (ha.b.notOwn hl (by decide)) fun b h1 h2 => Own.apart2 ha.o hl (by decide) b ((ob_len A ws.length 0 c c).trans h1) h2, hl', hf.upx hx fun b h1 h2 => lne b h2 h1, hc.upx hx (hc.b.notOwn hl (by decide)) fun b h1 h2 => Own.apart2 hc.o hl (by decide) b ((ob_len Ac wsF.length 0 cc cc).trans h1) h2, gne, wne, lne, gb⟩
/-- Behind Add: the array and its words have changed, and its words may lie elsewhere. -/
theorem PlI.add {w w' : World} {base W g gc : Nat} {Ac : Option Addr} {cc : Nat} {wsF F : List Int} {fv : Value} {A : Option Addr} {c : Nat} {ws L : List Int} {lv : Value} (h : PlI w base W g gc Ac cc wsF F fv A c ws L lv) (hx : UpX (fun b => b = g ∨ (Value.slice A 0 c).ownBlock = some b) w w') {ws' L' : List Int} {A' : Option Addr} {c' : Nat}
    (hb : Blk w' g 119 #[.int .i64 W, .int .i64 L'.length, .slice A' ws'.length c']) (ho : Own w' base 71 .u64 (.slice A' ws'.length c') ws') (hk : PkOk W L'.length ws' L') (hnear : ∀ b, (Value.slice A' 0 c').ownBlock = some b → (Value.slice A 0 c).ownBlock = some b ∨ w.heap.size ≤ b) :
    ArX w' g base W A' c' ws' L' ∧ Own w' base 3 .i64 lv L ∧ Own w' base 3 .i64 fv F ∧ ArX w' gc base W Ac cc wsF F ∧ (∀ b, (Value.slice A' 0 c').ownBlock = some b → ¬ (Value.slice Ac 0 cc).ownBlock = some b) := by
  have hc := fun b (hh : (Value.slice A 0 c).ownBlock = some b) => (ob_len A ws.length 0 c c).trans hh
  have hcl := fun b (hh : (Value.slice Ac 0 cc).ownBlock = some b) => (h.cp.o.lt b ((ob_len Ac wsF.length 0 cc cc).trans hh)).2
  refine ⟨⟨hb, ho, hk⟩, h.l.upx hx fun b h1 h2 => ?_, h.f.upx hx fun b h1 h2 => ?_, h.cp.upx hx (fun h2 => ?_) fun b h1 h2 => ?_, fun b h1 h2 => ?_⟩
  · rcases h2 with rfl | h2
    · exact h.a.b.notOwn h.l (by decide) h1
    · exact Own.apart2 h.l h.a.o (by decide) b h1 (hc b h2)
  · rcases h2 with rfl | h2
    · exact h.a.b.notOwn h.f (by decide) h1
    · exact Own.apart2 h.f h.a.o (by decide) b h1 (hc b h2)
  · rcases h2 with h2 | h2
    · exact h.gne h2.symm
    · exact h.cp.b.notOwn h.a.o (by decide) (hc gc h2)
  · rcases h2 with rfl | h2
    · exact h.a.b.notOwn h.cp.o (by decide) ((ob_len Ac wsF.length 0 cc cc).trans h1)
    · exact h.wne b h2 h1
  · rcases hnear b h1 with h3 | h3
    · exact h.wne b h3 h2
    · have := hcl b h2; omega
/-- Behind an append to the numbers. -/
theorem PlI.app {w : World} {base W g gc : Nat} {Ac : Option Addr} {cc : Nat} {wsF F : List Int} {fv : Value} {A : Option Addr} {c : Nat} {ws L L' : List Int} {lv lv' : Value}
    (ha : ArX w g base W A c ws L') (hl : Own w base 3 .i64 lv L) (hf : Own w base 3 .i64 fv F) (hc : ArX w gc base W Ac cc wsF F) (gne : g ≠ gc) (wne : ∀ b, (Value.slice A 0 c).ownBlock = some b → ¬ (Value.slice Ac 0 cc).ownBlock = some b) (lne : ∀ b, lv.ownBlock = some b → ¬ fv.ownBlock = some b) (gb : base ≤ g)
    {w' : World} (hx : UpX (fun b => lv.ownBlock = some b) w w') (hl' : Own w' base 3 .i64 lv' L') (hnear : Near w w' lv lv') : PlI w' base W g gc Ac cc wsF F fv A c ws L' lv' :=
  ⟨ha.upx hx (ha.b.notOwn hl (by decide)) fun b h1 h2 => Own.apart2 ha.o hl (by decide) b ((ob_len A ws.length 0 c c).trans h1) h2, hl', hf.upx hx fun b h1 h2 => lne b h2 h1, hc.upx hx (hc.b.notOwn hl (by decide)) fun b h1 h2 => Own.apart2 hc.o hl (by decide) b ((ob_len Ac wsF.length 0 cc cc).trans h1) h2, gne, wne, fun b h1 h2 => by
    rcases hnear.blocks b h1 with h3 | h3
    · exact lne b h3 h2
    · have := (hf.lt b h2).2; omega, gb⟩
end Go.Proofs.Ytneliajeokajbaa
