/- Layer 3: Sync. -/
import Derived.Test.YtehdigkjbobndaaDevL
namespace Go.Proofs.Ytehdigkjbobndaa
open Go.RowKit
set_option maxRecDepth 100000

theorem laid_flat {m : Nat} (ys : List Int) (hy : ys.length ≤ m) : ∀ (pg : List (List Int)) (no : Nat), (∀ p ∈ pg, p.length = m) → no < pg.length → Go.Proofs.Ytehdigkjbobndaa.laid pg.flatten (m * no) ys = (pg.set no (Go.Proofs.Ytehdigkjbobndaa.laid (pg.getD no []) 0 ys)).flatten
  | [], no, _, h => by simp at h
  | p :: pg, 0, h, _ => by
    have hp := h p (List.mem_cons_self ..)
    simp only [Go.Proofs.Ytehdigkjbobndaa.laid, List.flatten_cons, Nat.mul_zero, List.take_zero, List.nil_append, Nat.zero_add, List.set_cons_zero, List.getD_cons_zero]
    rw [List.drop_append_of_le_length (by omega)]
    simp
  | p :: pg, no + 1, h, hl => by
    have hp := h p (List.mem_cons_self ..)
    have ih := laid_flat ys hy pg no (fun q hq => h q (List.mem_cons_of_mem _ hq)) (by simpa using hl)
    rw [List.set_cons_succ, List.flatten_cons, List.flatten_cons, List.getD_cons_succ, ← ih]
    have e1 : m * (no + 1) = p.length + m * no := by rw [hp, Nat.mul_succ]; omega
    simp only [Go.Proofs.Ytehdigkjbobndaa.laid, e1, List.take_length_add_append, List.append_assoc]
    rw [show p.length + m * no + ys.length = p.length + (m * no + ys.length) by omega, List.drop_length_add_append]
/-- A page was copied into. -/
theorem DevX.laidPage {w w' : World} {g : Nat} {S : Nat → Prop} {s : DSt} {gl cap bm n : Nat} {f : Int → Option Value} (h : DevX w g S s gl cap bm n f) (no : Nat) (hn : no < s.pg.length) (ys : List Int) (hy : ys.length ≤ 256)
    (hu : UpX (fun b => b = gl) w w') (ho : Own w' 0 5 .u8 (.slice (some ⟨gl, 0, none⟩) (256 * s.pg.length) cap) (Go.Proofs.Ytehdigkjbobndaa.laid s.pg.flatten (256 * no) ys)) :
    DevX w' g S { s with pg := s.pg.set no (Go.Proofs.Ytehdigkjbobndaa.laid (s.pg.getD no []) 0 ys) } gl cap bm n f := by
  have hok := h.ok
  have hpl := (h.page no hn).2
  refine ⟨?_, ?_, h.map.upx hu (fun e => h.ne3 e.symm), h.nle, ⟨fun p => ?_, h.wts.sep⟩, h.sg, h.sgl, h.sbm, h.ne1, h.ne2, h.ne3, fun b hb => Nat.lt_of_lt_of_le (h.lt b hb) hu.size, ⟨fun p hp => ?_, ?_, ?_, hok.wlen, ?_, hok.left, hok.wmax⟩⟩
  · have := h.b.upx hu h.ne1
    simpa [devCells] using this
  · rw [List.length_set, ← laid_flat ys hy s.pg no hok.len hn]
    exact ho
  · refine (h.wts.at_ p).imp id fun ⟨v, h1, h2, h3⟩ => ⟨v, h1, h2, h3.upx hu (fun b hb e => (h.spine h1 b hb).2.1 e) fun b _ hne _ e => hne e⟩
  · rcases List.mem_or_eq_of_mem_set hp with hp | rfl
    · exact hok.len p hp
    · rw [laid_len (by omega), hpl]
  · rw [List.length_set]; exact hok.one
  · rw [List.length_set]; exact hok.most
  · intro p hp; rw [List.length_set]; exact hok.win p hp
theorem laid_full {xs ys : List Int} (h : ys.length = xs.length) : Go.Proofs.Ytehdigkjbobndaa.laid xs 0 ys = ys := by simp [Go.Proofs.Ytehdigkjbobndaa.laid, h]
/-- Pages of which those that were met are laid. -/
def metPg (s : DSt) (L : Int → Bool) : List (List Int) := (List.range s.pg.length).map fun (i : Nat) => if L (i : Int) then s.pg.getD i [] else devSees s i
theorem metPg_len (s : DSt) (L : Int → Bool) : (metPg s L).length = s.pg.length := by simp [metPg]
theorem metPg_get (s : DSt) (L : Int → Bool) {i : Nat} (hi : i < s.pg.length) : (metPg s L).getD i [] = if L (i : Int) then s.pg.getD i [] else devSees s i := by
  rw [List.getD_eq_getElem?_getD, List.getElem?_eq_getElem (by rw [metPg_len]; exact hi)]
  simp [metPg]
theorem metPg_start (s : DSt) (L : Int → Bool) (h : ∀ i : Nat, L i = false → s.wt i = []) : metPg s L = s.pg := by
  refine List.ext_getElem (metPg_len s L) fun i hi hi' => ?_
  have h1 := metPg_get s L hi'
  rw [List.getD_eq_getElem?_getD, List.getElem?_eq_getElem hi] at h1
  simp only [Option.getD_some] at h1
  rw [h1]
  have h2 : s.pg.getD i [] = s.pg[i] := by rw [List.getD_eq_getElem?_getD, List.getElem?_eq_getElem hi']; rfl
  split
  · exact h2
  · rename_i hL
    unfold devSees
    rw [if_pos (h i (by simpa using hL)), h2]
theorem metPg_step (s : DSt) (L : Int → Bool) {x : Nat} : metPg s (fun y => L y && !decide (y = (x : Int))) = (metPg s L).set x (devSees s x) := by
  refine List.ext_getElem (by rw [List.length_set, metPg_len, metPg_len]) fun i hi hi' => ?_
  rw [metPg_len] at hi
  rw [List.getElem_set]
  simp only [metPg, List.getElem_map, List.getElem_range]
  by_cases e : x = i
  · subst e; simp
  · have : decide ((i : Int) = (x : Int)) = false := decide_eq_false (by omega)
    simp [e, this]
theorem metPg_end (s : DSt) (L : Int → Bool) (h : ∀ i : Nat, i < s.pg.length → L i = false) : metPg s L = (List.range s.pg.length).map (devSees s) := by
  refine List.map_congr_left fun i hi => ?_
  rw [if_neg (by rw [h i (List.mem_range.1 hi)]; simp)]
/-- Nothing waits any more. -/
theorem DevX.cleared {w w' : World} {g : Nat} {S : Nat → Prop} {s : DSt} {gl cap bm n : Nat} {f : Int → Option Value} (h : DevX w g S s gl cap bm n f) (hu : UpX (fun b => b = bm) w w') (hm : MapI Try.prog 3 w' bm 0 (fun _ => none)) :
    DevX w' g S { s with wt := fun _ => [] } gl cap bm 0 (fun _ => none) := by
  have hok := h.ok
  refine ⟨?_, h.laid.upx hu (fun b hb e => ?_), hm, Nat.zero_le _, ⟨fun p => .inl ⟨rfl, rfl⟩, fun p q u v hu => (by cases hu)⟩, h.sg, h.sgl, h.sbm, h.ne1, h.ne2, h.ne3, fun b hb => Nat.lt_of_lt_of_le (h.lt b hb) hu.size, ⟨hok.len, hok.one, hok.most, fun p l hl => (by cases hl), fun p hp => absurd rfl hp, hok.left, fun p => Nat.zero_le _⟩⟩
  · have := h.b.upx hu h.ne2
    simpa [devCells] using this
  · simp only [Value.ownBlock, Option.some.injEq] at hb
    exact h.ne3 (hb.trans e)
/-- Sync. -/
def syncR (s : DSt) : Int := if s.off = true ∨ useOk s = false then 9 else 0
def syncS (s : DSt) : DSt := if s.off = true then s else if useOk s then { useS s with sy := s.sy + 1, pg := (List.range s.pg.length).map (devSees s), wt := fun _ => [] } else useS s
set_option maxHeartbeats 1000000 in
theorem devSync_bad (g : Nat) (S : Nat → Prop) (s : DSt) (w : World) (h : DevI w g S s) (hb : s.off = true ∨ useOk s = false) :
    Calls Try.prog 21 #[.pointer (some ⟨g, 0, none⟩)] w fun e w' => e = .returned (.int .i64 9) ∧ DevTo w g S (syncS s) w' := by
  have H1 := Lib.hid (devOn_calls g S s w h)
  have hnot : ∀ (x : Bool) (w : World), (Op.unary .not (.bool x)).run Try.prog w = .ok (.bool (!x)) w := fun _ _ => rfl
  have hdt : DevTo w g S s w := ⟨S, h, UpX.refl _ _, fun b hb => .inl hb⟩
  by_cases ho : s.off = true
  · have hS := Lib.hid (show syncS s = s by unfold syncS; rw [if_pos ho])
    rw [ho] at H1
    have HF := Lib.hid hdt
    clear hb ho h hdt
    go_enter Try.func21, Try.ntmps21
    go_wp2_with fail
    refine (H1.out).mono ?_
    rintro en w1 ⟨rfl, rfl⟩
    go_wp2_with fail
    go_ret
    exact ⟨rfl, by rw [hS.out]; exact HF.out⟩
  · have hu : useOk s = false := by rcases hb with h1 | h1; exact absurd h1 ho; exact h1
    have hof : s.off = false := by simpa using ho
    have hS := Lib.hid (show syncS s = useS s by unfold syncS; rw [if_neg ho, hu]; simp)
    rw [hof] at H1
    obtain ⟨gl, cap, bm, n, f, hx⟩ := h.out
    have HU := Lib.hid (powUse_calls g S s gl cap bm n f w hx)
    rw [hu] at HU
    have HS := Lib.hid hx.sg
    clear hb ho h hdt hu hof hx
    go_enter Try.func21, Try.ntmps21
    go_wp2_with fail
    refine (H1.out).mono ?_
    rintro en w1 ⟨rfl, rfl⟩
    go_wp2_with fail
    refine (HU.out).mono ?_
    rintro en w2 ⟨rfl, hd, hx⟩
    have HF := Lib.hid (show DevTo w1 g S (useS s) w2 from ⟨S, ⟨_, _, _, _, _, hd⟩, hx.mono fun k _ e => by subst e; exact HS.out, fun b hb => .inl hb⟩)
    clear hd hx HU H1
    go_wp2_with fail
    go_ret
    exact ⟨rfl, by rw [hS.out]; exact HF.out⟩
set_option maxHeartbeats 4000000 in
theorem devSync_ok (g : Nat) (S : Nat → Prop) (s : DSt) (w : World) (h : DevI w g S s) (ho : s.off = false) (hu : useOk s = true) (hsy : s.sy < 1000000000000) :
    Calls Try.prog 21 #[.pointer (some ⟨g, 0, none⟩)] w fun e w' => e = .returned (.int .i64 0) ∧ DevTo w g S (syncS s) w' := by
  have H1 := Lib.hid (devOn_calls g S s w h)
  have hnot : ∀ (x : Bool) (w : World), (Op.unary .not (.bool x)).run Try.prog w = .ok (.bool (!x)) w := fun _ _ => rfl
  have hS := Lib.hid (show syncS s = { useS s with sy := s.sy + 1, pg := (List.range s.pg.length).map (devSees s), wt := fun _ => [] } by unfold syncS; rw [ho, hu]; rfl)
  rw [ho] at H1
  obtain ⟨gl, cap, bm, n, f, hx⟩ := h.out
  have HU := Lib.hid (powUse_calls g S s gl cap bm n f w hx)
  rw [hu] at HU
  have HS := Lib.hid hx.sg
  have HLT := Lib.hid hx.lt
  have HSY := Lib.hid hsy
  clear h ho hu hx hsy
  go_enter Try.func21, Try.ntmps21
  go_wp2_with fail
  refine (H1.out).mono ?_
  rintro en w1 ⟨rfl, rfl⟩
  go_wp2_with fail
  refine (HU.out).mono ?_
  rintro en w2 ⟨rfl, hd, hx⟩
  have g5 : w2.cell? ⟨g, 5, none⟩ = some (.int .i64 (useS s).sy) := hd.b.cell 5
  have HADD := Lib.hid (atomAdd_calls ⟨g, 5, none⟩ (useS s).sy w2 g5 (hd.b.frozen 5) (by omega) (by rw [(useS_pg s).2.2.2.2]; have := HSY.out; omega))
  have HD := Lib.hid hd
  clear hd g5 HU H1
  go_wp2_with fail
  refine (HADD.out).mono ?_
  rintro en w3 ⟨rfl, he3⟩
  have hx3 : UpX (fun b => b = g) w2 w3 := by rw [he3]; exact UpX.one _ _ _ _
  have hd3 : DevX w3 g S { useS s with sy := (useS s).sy + 1 } gl cap bm n f := HD.out.cells hx3 (by rw [he3]; have := HD.out.b.set 5 (.int .i64 ((useS s).sy + 1)); simpa [devCells] using this) rfl rfl (Nat.le_refl _) HD.out.ok.left
  have hX3 : UpX S w1 w3 := (hx.trans hx3).mono fun b _ e => by subst e; exact HS.out
  clear he3 HADD HD hx hx3
  obtain ⟨s1, hs1⟩ : ∃ s1, ({ useS s with sy := (useS s).sy + 1 } : DSt) = s1 := ⟨_, rfl⟩
  rw [hs1] at hd3
  have g7 : w3.cell? ⟨g, 7, none⟩ = some (.map (some bm)) := hd3.b.cell 7
  have hmap := hd3.map
  have HR := Lib.hid fun b hb => Nat.lt_of_lt_of_le (HLT.out b hb) hX3.size
  go_wp2_with (refine wpl_mapRange w3 rfl _ 91 rfl 3 55 Try.underlying3 Try.underlying91 bm n f rfl hmap ?_; intro w4 cnt hr hu4 hsz4)
  dsimp only [Act.put]
  simp only [List.setIfInBounds_toArray, List.set_cons_zero, List.set_cons_succ]
  go_loopw [3, 4] (fun _ _ wr => ∃ (L : Int → Bool) (cnt : Nat), DevX wr g S { s1 with pg := metPg s1 L } gl cap bm n f ∧ RngI Try.prog 3 wr bm w3.heap.size n f L cnt ∧ UpX S w3 wr) (fun _ _ wr => wr.rangeLeft bm w3.heap.size)
  case atStart =>
    refine ⟨_, cnt, ?_, hr, hu4.x _⟩
    rw [metPg_start s1 _ (fun i hi => by
      rcases hd3.wts.at_ (i : Int) with ⟨_, h2⟩ | ⟨v, h1, _⟩
      · exact h2
      · simp [h1] at hi)]
    exact hd3.up hu4
  case round =>
    obtain ⟨L, cnt', hdr, hr', hu'⟩ := hrel
    clear hr hu4 hd3 hmap g7
    go_wp2_with (refine wpl_mapNext wr rfl _ rfl 3 Try.underlying3 bm w3.heap.size n f L cnt' rfl hr' ?_ ?_)
    · intro hc hl
      have g7 : wr.cell? ⟨g, 7, none⟩ = some (.map (some bm)) := hdr.b.cell 7
      have hmap := hdr.map
      have HE := Lib.hid (metPg_end s1 L fun i hi => hl i (InK.of_i64 (by omega) (by have := hdr.ok.most; rw [metPg_len] at this; omega)))
      have HDR := Lib.hid hdr
      clear hl hdr hr'
      go_wp2_with (refine wpl_mapClear wr rfl _ 91 3 rfl 55 Try.underlying91 bm n f rfl hmap ?_; intro w5 hm5 hx5)
      go_wp2_with fail
      go_ret
      have hfin := HDR.out.cleared hx5 hm5
      rw [HE.out] at hfin
      have e1 : s1.pg = s.pg ∧ s1.wt = s.wt ∧ s1.sy = s.sy + 1 ∧ s1.off = (useS s).off ∧ s1.armed = (useS s).armed ∧ s1.left = (useS s).left ∧ s1.rd = (useS s).rd ∧ s1.wr = (useS s).wr := by
        subst hs1
        have := useS_pg s
        exact ⟨this.1, this.2.1, by show (useS s).sy + 1 = _; rw [this.2.2.2.2], rfl, rfl, rfl, rfl, rfl⟩
      obtain ⟨e1, e2, e3, e4, e5, e6, e7, e8⟩ := e1
      have e9 : devSees s1 = devSees s := by funext i; unfold devSees; rw [e1, e2]
      rw [e1, e3, e4, e5, e6, e7, e8, e9] at hfin
      refine ⟨rfl, ?_⟩
      rw [hS.out]
      exact ⟨S, ⟨_, _, _, _, _, hfin⟩, (hX3.trans hu').trans (hx5.mono fun b _ e => by subst e; exact HDR.out.sbm), fun b hb => .inl hb⟩
    · intro x v w' cnt2 hx hL hfx hr2 hlt hux hsz hen
      have hdw := hdr.upx hux (fun b hb e => by have := HR.out b hb; omega)
      have hw : s1.wt x ≠ [] ∧ WaitI w' S gl v (s1.wt x) := by
        rcases hdw.wts.at_ x with ⟨h1, _⟩ | ⟨v', h1, h2, h3⟩
        · rw [hfx] at h1; cases h1
        · rw [hfx] at h1
          obtain rfl := Option.some.inj h1
          exact ⟨h2, h3⟩
      obtain ⟨hw0, hw1⟩ := hw
      have hin := hdw.ok.win x hw0
      simp only [metPg_len] at hin
      obtain ⟨i, rfl⟩ := Int.eq_ofNat_of_zero_le hin.1
      have hil : i < s1.pg.length := by omega
      obtain ⟨A, c, rfl, hc, hrl⟩ := hw1.slice
      have h0 : 0 < (s1.wt i).length := List.length_pos_iff.2 hw0
      obtain ⟨ad, l, A', c', rfl, hcl, hrd, hlg⟩ := hrl.get ((s1.wt i).length - 1) (by show (s1.wt i).length - 1 < (s1.wt i).length; omega)
      have hsee : devSees s1 i = l := by unfold devSees; rw [if_neg hw0]; exact hlg.out
      have hl256 : l.length = 256 := by
        have h9 := hlg.out
        rw [List.getD_eq_getElem?_getD, List.getElem?_eq_getElem (by omega)] at h9
        rw [← h9]
        exact hdw.ok.wlen i _ (List.getElem_mem _)
      have hmx := hrl.mx
      rw [hl256] at hcl
      have HSEE := Lib.hid hsee
      have HL256 := Lib.hid hl256
      have HWX := Lib.hid hdw
      have HR2 := Lib.hid hr2
      have hX : UpX S w3 w' := hu'.then_ hux (fun b hb e => by omega)
      have HP := Lib.hid fun w9 hd9 => devPage_calls g S { s1 with pg := metPg s1 L } gl cap bm n f i w9 hd9 (by rw [metPg_len]; exact hil)
      have HLE := Lib.hid hlt
      have HR1 := Lib.hid hr'
      clear hw1 hin hx hL hfx hr2 hux hsz hrl hlg hsee hl256 hdw hdr hu' hw0 hlt hr'
      generalize hm : (s1.wt i).length = m at *
      clear hm
      have hm1 : ((m : Int) - 1).toNat = m - 1 := by omega
      go_wp2_with fail
      refine wp_region_tree (fun w9 => Up w' w9) (.quiet 0 (.quiet 1 (.quiet 3 (.quiet 4 (.quiet 5 (.quiet 6 (.quiet 7 (.quiet 8 (.alt 2 (.alt 9 (.nil) (.stop)) (.stop)))))))))) (by kernel_rfl) (by kernel_rfl) rfl (by kernel_rfl) (by kernel_rfl) ((Up.refl w').drew) ?_
      simp only [pickT, List.getElem?_cons_succ, List.getElem?_cons_zero, Option.getD_some]
      repeat (refine tree_step rfl (fun K hK => ?_); go_big_quiet_step ((intro _; rfl)); refine wpQuiet_nil (hK _ ?_); clear hK K)
      refine tree_load (ad.add (m - 1)) (.slice A' 256 c') (by kernel_rfl) rfl (by kernel_rfl) (fun w' h => h.cell hcl) ?_
      dsimp only [Act.put]
      simp only [List.setIfInBounds_toArray, List.set_cons_zero, List.set_cons_succ]
      have hud : Up w' w'.drew := (Up.refl w').drew
      refine tree_do (fun K hK => ?_)
      go_wp2_with fail
      refine (HP.out w'.drew (HWX.out.up hud)).mono ?_
      rintro en w8 ⟨rfl, rfl⟩
      go_wp2_with fail
      refine ⟨hud, ?_⟩
      repeat (refine tree_step rfl (fun K hK => ?_); go_big_quiet_step ((intro _; rfl)); refine wpQuiet_nil (hK _ ?_); clear hK K)
      refine tree_do (fun K hK => ?_)
      have hD8 := Lib.hid (HWX.out.up hud)
      have hLL := hD8.out.laid
      have hfl := flatten_len hD8.out.ok.len
      simp only [metPg_len] at hfl hLL
      go_wp2_with (refine wpl_copyO 5 .u8 Try.underlying22 (by kernel_rfl) 0 (.slice (some ⟨gl, 0, none⟩) (256 * s1.pg.length) cap) (metPg s1 L).flatten hLL gl (256 * s1.pg.length) cap (256 * i) 256 (cap - 256 * i) rfl rfl A' 256 c' l rfl HL256.out.symm (hrd.up hud) (by rw [HL256.out]; decide) (by rw [HL256.out, hfl]; omega) ?_; intro w9 ho9 hx9 hs9)
      refine ⟨trivial, ?_⟩
      refine tree_nil ?_
      have hfin := hD8.out.laidPage i (by show i < (metPg s1 L).length; rw [metPg_len]; exact hil) l (by rw [HL256.out]; decide) hx9 (by simpa only [metPg_len] using ho9)
      simp only at hfin
      have hgi := (hD8.out.page i (by show i < (metPg s1 L).length; rw [metPg_len]; exact hil)).2
      rw [laid_full (by rw [HL256.out]; exact hgi.symm), ← HSEE.out, ← metPg_step] at hfin
      have HFIN := Lib.hid hfin
      have hne : gl ≠ w3.heap.size := fun e => by have := HR.out gl HWX.out.sgl; omega
      have hr9 := (HR2.out.upx (hud.x (fun b => b = gl)) (fun e => HWX.out.ne3 e.symm) (fun e => hne e.symm)).upx hx9 (fun e => HWX.out.ne3 e.symm) (fun e => hne e.symm)
      have HR9 := Lib.hid hr9
      clear hfin hgi hr9 ho9 hLL hfl hrd
      go_wp2_with fail
      dsimp only [Act.put]
      simp only [List.setIfInBounds_toArray, List.set_cons_zero, List.set_cons_succ]
      go_roundw
      case rel => exact ⟨_, cnt2, HFIN.out, HR9.out, (hX.trans (hud.x _)).trans (hx9.mono fun b _ e => by subst e; exact HWX.out.sgl)⟩
      case measure => rw [HR9.out.left_eq, HR1.out.left_eq]; exact HLE.out
end Go.Proofs.Ytehdigkjbobndaa
