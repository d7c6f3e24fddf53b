/- Layer 3: Write. -/
import Derived.Test.YtehdigkjbobndaaDevM
namespace Go.Proofs.Ytehdigkjbobndaa
open Go.RowKit
set_option maxRecDepth 100000

theorem devErr_ok {s : DSt} {no : Int} (h0 : s.off = false) (h1 : 0 ≤ no) (h2 : no < (s.pg.length : Int)) : devErr s no = 0 := by
  unfold devErr
  rw [h0, if_neg (by simp), if_neg (by omega)]
theorem devErr_zero {s : DSt} {no : Int} (h : devErr s no = 0) : s.off = false ∧ 0 ≤ no ∧ no < (s.pg.length : Int) := by
  unfold devErr at h
  split at h
  · omega
  · split at h
    · omega
    · rename_i h1 h2
      exact ⟨by simpa using h1, by omega, by omega⟩
/-- What Write answers, and what the device is behind it. -/
def devWriteR (s : DSt) (no : Int) (l : List Int) : Int := if devErr s no ≠ 0 then devErr s no else if l.length ≠ 256 then 2 else if useOk s then 0 else 9
def devWriteS (s : DSt) (no : Int) (l : List Int) : DSt :=
  if devErr s no ≠ 0 ∨ l.length ≠ 256 then s else if useOk s then { useS s with wr := s.wr + 1, wt := fun q => if q = no then s.wt no ++ [l] else s.wt q } else useS s
/-- A device behind a call: its blocks are old ones or new ones. -/
structure DevTo (w : World) (g : Nat) (S : Nat → Prop) (s' : DSt) (w' : World) : Prop where mk ::
  out : ∃ S', DevI w' g S' s' ∧ UpX S w w' ∧ ∀ b, S' b → S b ∨ w.heap.size ≤ b
theorem useS_pg (s : DSt) : (useS s).pg = s.pg ∧ (useS s).wt = s.wt ∧ (useS s).wr = s.wr ∧ (useS s).rd = s.rd ∧ (useS s).sy = s.sy := by
  unfold useS
  split <;> exact ⟨rfl, rfl, rfl, rfl, rfl⟩
set_option maxHeartbeats 1000000 in
theorem devWrite_bad (g : Nat) (S : Nat → Prop) (s : DSt) (no : Int) (A : Option Addr) (c : Nat) (l : List Int) (w : World) (h : DevI w g S s) (hr : Rd w .u8 A c l) (hb : devErr s no ≠ 0 ∨ l.length ≠ 256 ∨ useOk s = false) :
    Calls Try.prog 19 #[.pointer (some ⟨g, 0, none⟩), .int .i64 no, .slice A l.length c] w fun e w' => e = .returned (.int .i64 (devWriteR s no l)) ∧ DevTo w g S (devWriteS s no l) w' := by
  have H1 := Lib.hid (devCheck_calls g S s no w h)
  have hdt : DevTo w g S s w := ⟨S, h, UpX.refl _ _, fun b hb => .inl hb⟩
  by_cases he : devErr s no = 0
  · rw [he] at H1
    by_cases hl : l.length = 256
    · have hu : useOk s = false := by rcases hb with hb | hb | hb; exact absurd he hb; exact absurd hl hb; exact hb
      have hres : devWriteR s no l = 9 := by unfold devWriteR; rw [he, hl, hu]; simp
      have hres2 : devWriteS s no l = useS s := by unfold devWriteS; rw [he, hl, hu]; simp
      rw [hres, hres2]
      obtain ⟨gl, cap, bm, n, f, hx⟩ := h.out
      have HU := Lib.hid (powUse_calls g S s gl cap bm n f w hx)
      rw [hu] at HU
      have HS := Lib.hid hx.sg
      have hnot : ∀ (x : Bool) (w : World), (Op.unary .not (.bool x)).run Try.prog w = .ok (.bool (!x)) w := fun _ _ => rfl
      rw [hl]
      clear hb hdt hr hl he hu hres hres2 hx h
      go_enter Try.func19, Try.ntmps19
      go_wp2_with fail
      refine (H1.out).mono ?_
      rintro en w1 ⟨rfl, rfl⟩
      go_wp2_with fail
      refine (HU.out).mono ?_
      rintro en w2 ⟨rfl, hd, hx⟩
      have HF := Lib.hid (show DevTo w1 g S (useS s) w2 from ⟨S, ⟨_, _, _, _, _, hd⟩, hx.mono fun k _ e => by subst e; exact HS.out, fun b hb => .inl hb⟩)
      clear hd hx HU H1
      go_wp2_with fail
      go_ret
      exact ⟨rfl, HF.out⟩
    · have hres : devWriteR s no l = 2 := by unfold devWriteR; rw [he]; simp [hl]
      have hres2 : devWriteS s no l = s := by unfold devWriteS; rw [if_pos (.inr hl)]
      rw [hres, hres2]
      have hlen := hr.len
      have hlb : ((l.length : Int) != 256) = true := by simp; omega
      clear hb h hr he hres hres2
      generalize l.length = m at *
      have HF := Lib.hid hdt
      clear hdt
      go_enter Try.func19, Try.ntmps19
      go_wp2_with fail
      refine (H1.out).mono ?_
      rintro en w1 ⟨rfl, rfl⟩
      go_wp2_with fail
      go_ret
      exact ⟨rfl, HF.out⟩
  · have hres : devWriteR s no l = devErr s no := by unfold devWriteR; rw [if_pos he]
    have hres2 : devWriteS s no l = s := by unfold devWriteS; rw [if_pos (.inl he)]
    rw [hres, hres2]
    have hen : (devErr s no != 0) = true := by simp [he]
    have HF := Lib.hid hdt
    clear hb hres hres2 hdt hr h
    generalize devErr s no = er at *
    generalize l.length = m at *
    go_enter Try.func19, Try.ntmps19
    go_wp2_with fail
    refine (H1.out).mono ?_
    rintro en w1 ⟨rfl, rfl⟩
    go_wp2_with fail
    go_ret
    exact ⟨rfl, HF.out⟩
/-- One version more waits. -/
theorem DevX.wrote {w w' : World} {g : Nat} {S : Nat → Prop} {s : DSt} {gl cap bm n : Nat} {f : Int → Option Value} (h : DevX w g S s gl cap bm n f) (no : Int) (l : List Int) (v0 v5 : Value) (vs : List Value) (h0 : v0 = (f no).getD (.slice none 0 0))
    (hno : 0 ≤ no ∧ no < (s.pg.length : Int)) (hl : l.length = 256) (hn : n + 1 ≤ s.wr) (hwm : (s.wt no).length + 1 ≤ s.wr) (hx : UpX (fun b => v0.ownBlock = some b ∨ b = bm) w w') (hv : OwnV w' 0 22 v5 vs)
    (hvals : Vals (fun b => (S b ∨ (w.heap.size ≤ b ∧ b < w'.heap.size)) ∧ b ≠ gl ∧ Typed w' 5 b) w' .u8 vs (s.wt no ++ [l])) (hblk : ∀ b, v5.ownBlock = some b → v0.ownBlock = some b ∨ w.heap.size ≤ b)
    (hm : MapI Try.prog 3 w' bm (n + 1) (fun y => if y = no then some v5 else f y)) :
    DevX w' g (fun b => S b ∨ (w.heap.size ≤ b ∧ b < w'.heap.size)) { s with wt := fun q => if q = no then s.wt no ++ [l] else s.wt q } gl cap bm (n + 1) (fun y => if y = no then some v5 else f y) := by
  have hv0 : ∀ b, v0.ownBlock = some b → f no = some v0 := fun b hb => by
    cases hf : f no with
    | none => rw [hf] at h0; rw [h0] at hb; simp [Value.ownBlock] at hb
    | some v => rw [hf] at h0; rw [h0]; rfl
  have hng : ∀ b, v0.ownBlock = some b → b ≠ g ∧ b ≠ gl ∧ b ≠ bm := fun b hb => h.spine (hv0 b hb) b hb
  have ho := h.ok
  have hold : ∀ p v, p ≠ no → f p = some v → ∀ b, v.ownBlock = some b → ¬ (v0.ownBlock = some b ∨ b = bm) := fun p v hp hf b hb e => by
    rcases e with e | e
    · exact h.wts.sep p no v v0 hf (hv0 b e) hp b hb e
    · exact (h.spine hf b hb).2.2 e
  have hinS : ∀ p v, f p = some v → ∀ b, v.ownBlock = some b → S b := fun p v hf b hb => by
    rcases h.wts.at_ p with ⟨h1, _⟩ | ⟨v', h1, _, h2⟩
    · rw [hf] at h1; cases h1
    · rw [hf] at h1
      obtain rfl := Option.some.inj h1
      obtain ⟨_, _, _, h4⟩ := h2.out
      exact h4 b hb
  refine ⟨h.b.upx hx (fun e => ?_), h.laid.upx hx (fun b hb e => ?_), hm, hn, ⟨fun p => ?_, fun p q u v hu hv' hpq b hb hb' => ?_⟩, .inl h.sg, .inl h.sgl, .inl h.sbm, h.ne1, h.ne2, h.ne3, fun b hb => ?_, ⟨ho.len, ho.one, ho.most, fun p k hk => ?_, fun p hp => ?_, ho.left, fun p => ?_⟩⟩
  · rcases e with e | e
    · exact (hng _ e).1 rfl
    · exact h.ne2 e
  · simp only [Value.ownBlock, Option.some.injEq] at hb
    subst hb
    rcases e with e | e
    · exact (hng _ e).2.1 rfl
    · exact h.ne3 e
  · by_cases hp : p = no
    · subst hp
      simp only [if_true]
      refine .inr ⟨v5, rfl, by simp, ⟨vs, hv, hvals, fun b hb => ?_⟩⟩
      rcases hblk b hb with h1 | h1
      · exact .inl (hinS _ _ (hv0 b h1) b h1)
      · exact .inr ⟨h1, (hv.lt b hb).2⟩
    · simp only [if_neg hp]
      refine (h.wts.at_ p).imp id fun ⟨v, h1, h2, h3⟩ => ⟨v, h1, h2, (h3.upx hx (fun b hb => hold p v hp h1 b hb) fun b _ _ ht e => ?_).mono fun b hb => .inl hb⟩
      rcases e with e | e
      · exact (h.content ht).2.2 _ _ (hv0 b e) e
      · exact (h.content ht).2.1 e
  · have key : ∀ p v, p ≠ no → f p = some v → ∀ b, v.ownBlock = some b → ¬ v5.ownBlock = some b := fun p v hp hf b hb e => by
      rcases hblk b e with h1 | h1
      · exact hold p v hp hf b hb (.inl h1)
      · have := h.lt b (hinS p v hf b hb); omega
    by_cases hp : p = no
    · have hq : q ≠ no := fun e => hpq (hp.trans e.symm)
      rw [if_pos hp] at hu
      rw [if_neg hq] at hv'
      obtain rfl := Option.some.inj hu
      exact key q v hq hv' b hb' hb
    · rw [if_neg hp] at hu
      by_cases hq : q = no
      · rw [if_pos hq] at hv'
        obtain rfl := Option.some.inj hv'
        exact key p u hp hu b hb hb'
      · rw [if_neg hq] at hv'
        exact h.wts.sep p q u v hu hv' hpq b hb hb'
  · rcases hb with hb | hb
    · exact Nat.lt_of_lt_of_le (h.lt b hb) hx.size
    · exact hb.2
  · simp only at hk
    split at hk
    · rcases List.mem_append.1 hk with hk | hk
      · exact ho.wlen _ _ hk
      · rw [List.mem_singleton.1 hk]; exact hl
    · exact ho.wlen _ _ hk
  · simp only at hp
    by_cases e : p = no
    · rw [e]; exact hno
    · rw [if_neg e] at hp; exact ho.win p hp
  · show (if p = no then s.wt no ++ [l] else s.wt p).length ≤ s.wr
    split
    · rw [List.length_append]; exact hwm
    · exact ho.wmax p
/-- What a page's entry holds: an own slice of the versions. -/
theorem DevX.entry {w : World} {g : Nat} {S : Nat → Prop} {s : DSt} {gl cap bm n : Nat} {f : Int → Option Value} (h : DevX w g S s gl cap bm n f) (no : Int) :
    ∃ vs, OwnV w 0 22 ((f no).getD (.slice none 0 0)) vs ∧ Vals (fun b => S b ∧ b ≠ gl ∧ Typed w 5 b) w .u8 vs (s.wt no) := by
  rcases h.wts.at_ no with ⟨h1, h2⟩ | ⟨v, h1, _, h3⟩
  · rw [h1, h2]
    exact ⟨[], OwnV.nil _ _ _, Vals.nil _ _ _⟩
  · obtain ⟨vs, h4, h5, _⟩ := h3.out
    rw [h1]
    exact ⟨vs, h4, h5⟩
theorem DevX.look {w : World} {g : Nat} {S : Nat → Prop} {s : DSt} {gl cap bm n : Nat} {f : Int → Option Value} (h : DevX w g S s gl cap bm n f) (no : Int) (hk : InK .i64 no) :
    (Instr.lookup 91 (.map (some bm)) (.int .i64 no) false).run Try.prog w = .ok ((f no).getD (.slice none 0 0)) w :=
  (h.map.look Try.underlying3 Try.underlying91 (show (zeroValue 55).run Try.prog w = .ok (.slice none 0 0) w by rfl) no hk).2
set_option maxHeartbeats 2000000 in
theorem devWrite_ok (g : Nat) (S : Nat → Prop) (s : DSt) (no : Int) (A : Option Addr) (c : Nat) (l : List Int) (w : World) (h : DevI w g S s) (hr : Rd w .u8 A c l) (he : devErr s no = 0) (hl : l.length = 256) (hu : useOk s = true) (hwr : s.wr < 1000000000000) (hAS : ∀ ad, A = some ad → ¬ S ad.block) :
    Calls Try.prog 19 #[.pointer (some ⟨g, 0, none⟩), .int .i64 no, .slice A 256 c] w fun e w' => e = .returned (.int .i64 0) ∧ DevTo w g S (devWriteS s no l) w' := by
  have H1 := Lib.hid (devCheck_calls g S s no w h)
  rw [he] at H1
  have hres2 : devWriteS s no l = { useS s with wr := s.wr + 1, wt := fun q => if q = no then s.wt no ++ [l] else s.wt q } := by unfold devWriteS; rw [he, hl, hu]; simp
  rw [hres2]
  obtain ⟨gl, cap, bm, n, f, hx⟩ := h.out
  have HU := Lib.hid (powUse_calls g S s gl cap bm n f w hx)
  rw [hu] at HU
  have HS := Lib.hid hx.sg
  have hnot : ∀ (x : Bool) (w : World), (Op.unary .not (.bool x)).run Try.prog w = .ok (.bool (!x)) w := fun _ _ => rfl
  have HWR := Lib.hid hwr
  have HL := Lib.hid hl
  have HA := Lib.hid hAS
  have HE := Lib.hid he
  have HX := Lib.hid hx.ok
  clear hl he hu hres2 hx h hwr hAS
  go_enter Try.func19, Try.ntmps19
  go_wp2_with fail
  refine (H1.out).mono ?_
  rintro en w1 ⟨rfl, rfl⟩
  go_wp2_with fail
  refine (HU.out).mono ?_
  rintro en w2 ⟨rfl, hd, hx⟩
  clear HU H1
  have g4 : w2.cell? ⟨g, 4, none⟩ = some (.int .i64 (useS s).wr) := hd.b.cell 4
  have hr2 : Rd w2 .u8 A c l := hr.upx hx fun ad e _ e2 => HA.out ad e (by rw [e2]; exact HS.out)
  have HADD := Lib.hid (atomAdd_calls ⟨g, 4, none⟩ (useS s).wr w2 g4 (hd.b.frozen 4) (by omega) (by rw [(useS_pg s).2.2.1]; have := HWR.out; omega))
  have HD := Lib.hid hd
  clear hr g4
  go_wp2_with fail
  refine (HADD.out).mono ?_
  rintro en w3 ⟨rfl, he3⟩
  have hx3 : UpX (fun b => b = g) w2 w3 := by rw [he3]; exact UpX.one _ _ _ _
  have hd3 : DevX w3 g S { useS s with wr := (useS s).wr + 1 } gl cap bm n f := HD.out.cells hx3 (by rw [he3]; have := HD.out.b.set 4 (.int .i64 ((useS s).wr + 1)); simpa [devCells] using this) rfl rfl (by simp) HD.out.ok.left
  have hn3 : n + 1 ≤ (useS s).wr + 1 := by have := HD.out.nle; omega
  have hr3 : Rd w3 .u8 A c l := hr2.upx hx3 fun ad e _ e2 => HA.out ad e (by rw [e2]; exact HS.out)
  clear he3 HADD HD hr2 hd
  obtain ⟨hno, hno0, hno1⟩ := devErr_zero HE.out
  have hik : InK .i64 no := InK.of_i64 (by omega) (by have := HX.out.most; omega)
  obtain ⟨vs, hvs, hvals⟩ := hd3.entry no
  have g7 : w3.cell? ⟨g, 7, none⟩ = some (.map (some bm)) := hd3.b.cell 7
  obtain ⟨v0, hv0⟩ : ∃ v0, (f no).getD (.slice none 0 0) = v0 := ⟨_, rfl⟩
  rw [hv0] at hvs
  have hsp : ∀ b, v0.ownBlock = some b → b ≠ g ∧ b ≠ gl ∧ b ≠ bm := fun b hb => by
    cases hf : f no with
    | none => rw [hf] at hv0; rw [← hv0] at hb; simp [Value.ownBlock] at hb
    | some v => rw [hf] at hv0; rw [← hv0] at hb; exact hd3.spine hf b hb
  have hlk : ∀ w', UpX (fun b => v0.ownBlock = some b) w3 w' → (Instr.lookup 91 (.map (some bm)) (.int .i64 no) false).run Try.prog w' = .ok v0 w' := fun w' hu => by
    have := (hd3.map.upx hu (fun e => (hsp _ e).2.2 rfl)).look Try.underlying3 Try.underlying91 (show (zeroValue 55).run Try.prog w' = .ok (.slice none 0 0) w' by rfl) no hik
    rw [this.2, hv0]
  go_wp2_with fail
  refine wp_region_tree (fun w' => UpX (fun b => v0.ownBlock = some b) w3 w') (.quiet 0 (.quiet 1 (.quiet 2 (.quiet 3 (.quiet 4 (.quiet 5 (.quiet 6 (.quiet 7 (.quiet 8 (.quiet 9 (.quiet 10 (.quiet 11 (.alt 12 (.alt 13 (.alt 14 (.alt 15 (.nil) (.stop)) (.stop)) (.stop)) (.stop)))))))))))))) (by kernel_rfl) (by kernel_rfl) rfl (by kernel_rfl) (by kernel_rfl) ((UpX.refl _ w3).drew) ?_
  simp only [pickT, List.getElem?_cons_succ, List.getElem?_cons_zero, Option.getD_some]
  repeat (refine tree_step rfl (fun K hK => ?_); go_big_quiet_step ((intro _; rfl)); refine wpQuiet_nil (hK _ ?_); clear hK K)
  refine tree_load ⟨g, 7, none⟩ (.map (some bm)) (by kernel_rfl) rfl (by kernel_rfl) (fun w' h => h.cell g7 (fun e => (hsp _ e).1 rfl)) ?_
  dsimp only [Act.put]
  simp only [List.setIfInBounds_toArray, List.set_cons_zero, List.set_cons_succ]
  repeat (refine tree_step rfl (fun K hK => ?_); go_big_quiet_step ((intro _; rfl)); refine wpQuiet_nil (hK _ ?_); clear hK K)
  refine tree_load ⟨g, 7, none⟩ (.map (some bm)) (by kernel_rfl) rfl (by kernel_rfl) (fun w' h => h.cell g7 (fun e => (hsp _ e).1 rfl)) ?_
  dsimp only [Act.put]
  simp only [List.setIfInBounds_toArray, List.set_cons_zero, List.set_cons_succ]
  repeat (refine tree_step rfl (fun K hK => ?_); go_big_quiet_step ((intro _; rfl)); refine wpQuiet_nil (hK _ ?_); clear hK K)
  refine tree_lookup bm no v0 (by kernel_rfl) rfl rfl hlk ?_
  dsimp only [Act.put]
  simp only [List.setIfInBounds_toArray, List.set_cons_zero, List.set_cons_succ]
  repeat (refine tree_step rfl (fun K hK => ?_); go_big_quiet_step ((intro _; rfl)); refine wpQuiet_nil (hK _ ?_); clear hK K)
  refine tree_do (fun K hK => ?_)
  have hr4 : Rd w3.drew .u8 A c l := hr3.drewN 1
  go_wp2_with fail
  refine (bytesClone_n hr4 (by have := HL.out; omega) HL.out.symm).mono ?_
  rintro en w4 ⟨v4, rfl, hv4, hu4⟩
  have hU4 : Up w3 w4 := ((Up.refl w3).drew).trans hu4
  obtain ⟨B4, c4, rfl, hr5⟩ := hv4.rd
  have hB4 : ∀ b, (Value.slice B4 l.length c4).ownBlock = some b → w3.heap.size ≤ b ∧ b < w4.heap.size ∧ Typed w4 5 b := fun b hb => ⟨(hv4.lt b hb).1, (hv4.lt b hb).2, hv4.typed b hb⟩
  have hB5 : ∀ ad, B4 = some ad → (Value.slice B4 l.length c4).ownBlock = some ad.block := fun ad e => by
    subst e
    rcases hv4.row.2 with ⟨h0, _⟩ | ⟨g', cap', cur', h0, _⟩
    · cases h0
    · injection h0 with h0 _ _
      injection h0 with h0
      subst h0
      rfl
  have HV4 := Lib.hid hv4
  clear hv4 hu4 hr4 hr3
  go_wp2_with fail
  refine ⟨hU4.x _, ?_⟩
  repeat (refine tree_step rfl (fun K hK => ?_); go_big_quiet_step ((intro _; rfl)); refine wpQuiet_nil (hK _ ?_); clear hK K)
  refine tree_do (fun K hK => ?_)
  go_wp2_with fail
  have hU5 : Up w4 (w4.alloc (.cells #[Value.slice B4 l.length c4] 22)) := (Up.refl w4).alloc _
  have hc5 : (w4.alloc (.cells #[Value.slice B4 l.length c4] 22)).cell? ⟨w4.heap.size, 0, none⟩ = some (.slice B4 l.length c4) := (Blk.new w4 22 #[Value.slice B4 l.length c4]).cell 0
  have hs5 : (w4.alloc (.cells #[Value.slice B4 l.length c4] 22)).heap.size = w4.heap.size + 1 := by simp
  refine ⟨(hU4.trans hU5).x _, ?_⟩
  generalize (w4.alloc (.cells #[Value.slice B4 l.length c4] 22)) = w5 at *
  repeat (refine tree_step rfl (fun K hK => ?_); go_big_quiet_step ((intro _; rfl)); refine wpQuiet_nil (hK _ ?_); clear hK K)
  refine tree_do (fun K hK => ?_)
  have hvs5 : OwnV w5 0 22 v0 vs := hvs.up (hU4.trans hU5)
  have hvl : vs.length < 1000000000000 := by
    rw [hvals.len, (useS_pg s).2.1]
    have := HX.out.wmax no
    have := HWR.out
    omega
  go_wp2_with (refine wpl_appendV2 0 22 (.slice none 0 0) 24 Try.underlying55 (by kernel_rfl) rfl v0 vs rfl hvs5 ⟨w4.heap.size, 0, none⟩ 1 1 [.slice B4 l.length c4] rfl rfl (fun j u hu => by cases j with | zero => (injection hu with hu; subst hu; rw [show (⟨w4.heap.size, 0, none⟩ : Addr).add 0 = ⟨w4.heap.size, 0, none⟩ by rfl]; exact hc5) | succ j => simp at hu) (fun u hu => by rw [List.mem_singleton.1 hu]; rfl) (by simp; omega) (by decide) (by omega) ?_; intro v6 w6 hv6 hx6 hn6)
  refine ⟨((hU4.trans hU5).x _).trans hx6, ?_⟩
  repeat (refine tree_step rfl (fun K hK => ?_); go_big_quiet_step ((intro _; rfl)); refine wpQuiet_nil (hK _ ?_); clear hK K)
  refine tree_do (fun K hK => ?_)
  have hX6 : UpX (fun b => v0.ownBlock = some b) w3 w6 := ((hU4.trans hU5).x _).trans hx6
  have hm6 : MapI Try.prog 3 w6 bm n f := hd3.map.upx hX6 (fun e => (hsp _ e).2.2 rfl)
  have hnm : n < maxLen := by have := hd3.nle; simp only [(useS_pg s).2.2.1] at this; have := HWR.out; simp only [maxLen]; omega
  go_wp2_with (refine wpl_mapPut w6 rfl _ _ _ 91 rfl 3 55 Try.underlying3 Try.underlying91 bm n f rfl hm6 hnm no v6 rfl hik rfl ?_; intro w7 hm7 hx7)
  refine ⟨trivial, ?_⟩
  refine tree_nil ?_
  go_wp2_with fail
  go_ret
  have hu5 : Up w3 w5 := hU4.trans hU5
  have hX7 : UpX (fun b => v0.ownBlock = some b ∨ b = bm) w3 w7 := (hX6.mono fun b _ e => .inl e).trans (hx7.mono fun b _ e => .inr e)
  have hsz6 := hx6.size
  have hsz7 := hx7.size
  have hsz4 := hU4.size
  have hv0b : ∀ b, v0.ownBlock = some b → Typed w3 22 b ∧ b < w3.heap.size := fun b hb => ⟨hvs.typed b hb, (hvs.lt b hb).2⟩
  have hv6m : ∀ b, v6.ownBlock = some b → ¬ b = bm := fun b hb e => by
    subst e
    exact hm6.typed (hv6.typed b hb)
  have hb4 : ∀ ad, B4 = some ad → w3.heap.size ≤ ad.block ∧ ad.block < w4.heap.size := fun ad e => ⟨(hB4 _ (hB5 ad e)).1, (hB4 _ (hB5 ad e)).2.1⟩
  have hbm : bm < w3.heap.size := hd3.map.lt
  have hvals7 : Vals (fun b => (S b ∨ (w3.heap.size ≤ b ∧ b < w7.heap.size)) ∧ b ≠ gl ∧ Typed w7 5 b) w7 .u8 (vs ++ [.slice B4 l.length c4]) ((useS s).wt no ++ [l]) := by
    have hc : ∀ b, S b ∧ b ≠ gl ∧ Typed w3 5 b → ¬ (v0.ownBlock = some b ∨ b = bm) := fun b hb e => by
      rcases e with e | e
      · have := (hv0b b e).1.ne hb.2.2; cases this
      · subst e; exact hd3.map.typed hb.2.2
    have h1 : Vals (fun b => (S b ∨ (w3.heap.size ≤ b ∧ b < w7.heap.size)) ∧ b ≠ gl ∧ Typed w7 5 b) w7 .u8 vs ((useS s).wt no) := (hvals.upx hX7 hc).mono fun b hb => ⟨.inl hb.1, hb.2.1, hb.2.2.upx hX7 (hc b hb)⟩
    have h2 : UpX (fun b => v0.ownBlock = some b ∨ b = bm) w4 w7 := ((hU5.x _).trans (hx6.mono fun b _ e => .inl e)).trans (hx7.mono fun b _ e => .inr e)
    have h3 : ∀ ad, B4 = some ad → ¬ (v0.ownBlock = some ad.block ∨ ad.block = bm) := fun ad e e2 => by
      have := hb4 ad e
      rcases e2 with e2 | e2
      · have := (hv0b _ e2).2; omega
      · omega
    refine h1.snoc (hr5.upx h2 fun ad e _ => h3 ad e) rfl fun ad e _ => ⟨.inr ⟨(hb4 ad e).1, by have := (hb4 ad e).2; omega⟩, fun e2 => ?_, ((hB4 _ (hB5 ad e)).2.2).upx h2 (h3 ad e)⟩
    have := hd3.lt gl hd3.sgl
    have := (hb4 ad e).1
    omega
  have hv7 : OwnV w7 0 22 v6 (vs ++ [.slice B4 l.length c4]) := hv6.upx hx7 hv6m
  have hfin := hd3.wrote no l v0 v6 _ hv0.symm ⟨hno0, by rw [(useS_pg s).1]; exact hno1⟩ HL.out (by simpa using hn3) (by
    show ((useS s).wt no).length + 1 ≤ (useS s).wr + 1
    rw [(useS_pg s).2.1, (useS_pg s).2.2.1]
    have := HX.out.wmax no
    omega) hX7 hv7 hvals7 (fun b hb => by
      rcases hn6.blocks b hb with h1 | h1
      · exact .inl h1
      · exact .inr (by omega)) hm7
  simp only [(useS_pg s).2.1, (useS_pg s).2.2.1] at hfin
  refine ⟨rfl, ⟨_, ⟨_, _, _, _, _, hfin⟩, ?_, fun b hb => ?_⟩⟩
  · have hS0 : ∀ b, v0.ownBlock = some b ∨ b = bm → S b := fun b e => by
      rcases e with e | e
      · cases hf : f no with
        | none => rw [hf] at hv0; rw [← hv0] at e; simp [Value.ownBlock] at e
        | some v =>
          rw [hf] at hv0
          rcases hd3.wts.at_ no with ⟨h1, _⟩ | ⟨v', h1, _, h2⟩
          · rw [hf] at h1; cases h1
          · rw [hf] at h1
            obtain rfl := Option.some.inj h1
            obtain ⟨_, _, _, h4⟩ := h2.out
            have e9 : v = v0 := hv0
            exact h4 b (e9 ▸ e)
      · subst e; exact hd3.sbm
    have hg : ∀ b, b = g → S b := fun b e => by subst e; exact HS.out
    exact (((hx.mono fun b _ e => hg b e).trans (hx3.mono fun b _ e => hg b e))).trans (hX7.mono fun b _ e => hS0 b e)
  · rcases hb with hb | hb
    · exact .inl hb
    · exact .inr (by have := hx.size; have := hx3.size; omega)
end Go.Proofs.Ytehdigkjbobndaa
