/- The law PackedPlays returns true of any numbers and calls. -/
import Derived.Test.YtneliajeokajbaaPkCpM
import Derived.Test.YtneliajeokajbaaPkKnM
namespace Go.Proofs.Ytneliajeokajbaa
open Go.RowKit
set_option maxRecDepth 100000

theorem wpl_append3 {P : Program} {w : World} {ops : Array Oper} {rest : List Oper} {a : Act} {Q : Exit → Act → World → Prop} {dst : Option Tmp} {ty : TypeId} {pos : String} {after : Array Edge}
    {s x : Operand} {t : TypeId} (base e : Nat) (k : IntKind) (bytes : Nat) (ht : P.underlying t = some (.slice e)) (hi : (P.info? e).map (fun i => (i.zero, i.size, i.bytes)) = some (some (.int k 0), 1, bytes))
    (v : Value) (xs : List Int) (hs : a.eval s = v) (hown : Own w base e k v xs) (A : Option Addr) (m c : Nat) (ys : List Int) (hx : a.eval x = .slice A m c) (hm : m = ys.length) (hy : Rd w k A c ys)
    (hb : (xs.length + ys.length) * bytes ≤ 140737488355328) (hbytes : 1 ≤ bytes) (hbase : base ≤ w.heap.size)
    (h : ∀ v' w', Own w' base e k v' (xs ++ ys) → UpX (fun b => v.ownBlock = some b) w w' → Near w w' v v' → wpList P ops Q rest (a.put dst v') w') :
    wpList P ops Q ({ dst := dst, op := .call { callee := .builtin .append, args := #[s, x], argTypes := #[t, t] }, type := ty, pos := pos, after := after, guard := none } :: rest) a w := by
  cases A with
  | none =>
    obtain ⟨i, hi, hz, hsz, hby⟩ := info_parts hi
    have hy0 : ys = [] := List.eq_nil_of_length_eq_zero (hy.non rfl)
    subst hy0
    have hm0 : m = 0 := hm
    subst hm0
    refine wpList_plain rfl fun K hK => ?_
    have hrun := run_append_none (P := P) (w := w) base t ty e i 1 ht hi v xs.length c _ hown.row
    unfold Oper.wp
    subst hs
    simp [execOp, resolve, invoke, builtin, hx, hrun, Result.andThen]
    exact hK _ _ (h _ w (by simpa using hown) (UpX.refl _ _) ⟨.inl rfl⟩)
  | some ad => exact wpl_append2 base e k bytes ht hi v xs hs hown ad m c ys hx hm hy hb hbytes hbase h
/-- A call that is asked for. -/
structure Act12 where
  f0 : Int
  f1 : Int
  f2 : Int
  f3 : List Int
/-- A slice of such, as it lies. -/
structure ActsR (w : World) (A : Option Addr) (ls : List Act12) : Prop where
  at_ : ∀ (i : Nat) (x : Act12), ls[i]? = some x → ∃ b o, A = some ⟨b, o, none⟩ ∧ w.cell? ⟨b, o + i * 4, none⟩ = some (.int .i64 x.f0) ∧ w.cell? ⟨b, o + i * 4 + 1, none⟩ = some (.int .i64 x.f1) ∧ w.cell? ⟨b, o + i * 4 + 2, none⟩ = some (.int .i64 x.f2) ∧
    ∃ B d, w.cell? ⟨b, o + i * 4 + 3, none⟩ = some (.slice B x.f3.length d) ∧ Rd w .i64 B d x.f3
  wf : ∀ x ∈ ls, InK .i64 x.f0 ∧ InK .i64 x.f1 ∧ InK .i64 x.f2
theorem ActsR.up {w w' : World} {A : Option Addr} {ls : List Act12} (h : ActsR w A ls) (hu : Up w w') : ActsR w' A ls :=
  ⟨fun i x hx => by
    obtain ⟨b, o, e, h0, h1, h2, B, d, h3, hr⟩ := h.at_ i x hx
    exact ⟨b, o, e, hu.cell h0, hu.cell h1, hu.cell h2, B, d, hu.cell h3, hr.up hu⟩, h.wf⟩

set_option maxHeartbeats 16000000 in
theorem lawPackedPlays_calls (W0 : Int) (A1 : Option Addr) (c1 : Nat) (l1 : List Int) (A2 : Option Addr) (c2 : Nat) (ls : List Act12) (w : World) (h1 : Rd w .i64 A1 c1 l1) (h2 : ActsR w A2 ls) (_ : ls.length ≤ c2) (hW : InK .i64 W0) :
    Calls Try.prog 6 #[.int .i64 W0, .slice A1 l1.length c1, .slice A2 ls.length c2] w fun e w' => e = .returned (.bool true) ∧ Up w w' := by
  have hx : Rd w .i64 A1 c1 (l1.take 40) := h1.take 40
  have h40 : (l1.take 40).length ≤ 40 := List.length_take_le _ _
  have hn0 : (min (l1.length : Int) 40).toNat = (l1.take 40).length := by rw [List.length_take]; omega
  have hL := h1.le
  have hxc := hx.le
  generalize l1.take 40 = x at *
  clear h1
  have hoE : Own (w.alloc (.cells #[] 3)) w.heap.size 3 .i64 (.slice (some ⟨w.heap.size, 0, none⟩) 0 0) [] := Own.lit w _ _ _ [] (Nat.le_refl _) (by simp) (by simp) 0 rfl _ rfl
  have hue : Up w (w.alloc (.cells #[] 3)) := (Up.refl w).alloc _
  go_enter Try.func6, Try.ntmps6
  go_wp2_with (refine wpl_append (t := 23) w.heap.size 3 .i64 8 Try.underlying23 infoInt (.slice (some ⟨w.heap.size, 0, none⟩) 0 0) [] rfl hoE A1 _ c1 x rfl rfl (hx.up hue) (by simp; omega) (by decide) hue.size ?_; intro v1 w1 hv1 hu1 _)
  have hU1 : Up w w1 := hue.thenx hu1 fun i hi e => by have e' : w.heap.size = i := Option.some.inj e; omega
  rw [List.nil_append] at hv1
  have hv1' := hv1
  obtain ⟨A3, c3, rfl, hr3⟩ := hv1'.rd
  clear hu1 hoE hue hx
  refine (packedNew_calls W0 A3 c3 x w1 hr3).mono ?_
  rintro en w2 ⟨hu2, hp⟩
  have hU2 := hU1.trans hu2
  rcases hp with ⟨hw, rfl⟩ | ⟨hw, hf, rfl⟩ | ⟨_, _, hl, _⟩ | ⟨hw, hf, _, g, ws, rfl, hg, hpa, hok⟩
  · have hw2 : W0 < 1 ∨ 31 < W0 := by
      unfold rightW at hw
      simp at hw
      omega
    clear hw
    by_cases hlo : W0 < 1
    · clear hw2
      go_wp2_with fail
      refine (law12known_calls w2).mono ?_
      rintro en w3 ⟨rfl, hu3⟩
      go_wp2_with fail
      go_ret
      exact ⟨rfl, hU2.trans hu3⟩
    · have hhi : 31 < W0 := by omega
      have hlo1 : 1 ≤ W0 := by omega
      have hd1 : decide (W0 < 1) = false := decide_eq_false hlo
      clear hw2 hlo
      go_wp2_with fail
      refine (law12known_calls w2).mono ?_
      rintro en w3 ⟨rfl, hu3⟩
      go_wp2_with fail
      go_ret
      exact ⟨rfl, hU2.trans hu3⟩
  · have hw2 : 1 ≤ W0 ∧ W0 ≤ 31 := by unfold rightW at hw; simpa using hw
    obtain ⟨W, rfl⟩ := Int.eq_ofNat_of_zero_le (show 0 ≤ W0 by omega)
    have hW1 : 1 ≤ W := by omega
    have hW2 : W ≤ 31 := by omega
    rw [Int.toNat_natCast] at hf
    have HFT := fun w' hr => Lib.hid (ref12Fits_calls W hW1 hW2 A3 c3 x w' hr)
    rw [hf] at HFT
    clear hw hf hw2
    have hd1 : decide ((W : Int) < 1) = false := decide_eq_false (by omega)
    have hd2 : decide ((31 : Int) < (W : Int)) = false := decide_eq_false (by omega)
    go_wp2_with fail
    refine ((HFT w2 (hr3.up hu2)).out).mono ?_
    rintro en w3 ⟨rfl, rfl⟩
    go_wp2_with fail
    refine (law12known_calls w2).mono ?_
    rintro en w3 ⟨rfl, hu3⟩
    go_wp2_with fail
    go_ret
    exact ⟨rfl, hU2.trans hu3⟩
  · omega
  · have hw2 : 1 ≤ W0 ∧ W0 ≤ 31 := by unfold rightW at hw; simpa using hw
    obtain ⟨W, rfl⟩ := Int.eq_ofNat_of_zero_le (show 0 ≤ W0 by omega)
    have hW1 : 1 ≤ W := by omega
    have hW2 : W ≤ 31 := by omega
    rw [Int.toNat_natCast] at hf hpa hok
    have HFT := fun w' hr => Lib.hid (ref12Fits_calls W hW1 hW2 A3 c3 x w' hr)
    rw [hf] at HFT
    clear hw hf hw2
    have hd1 : decide ((W : Int) < 1) = false := decide_eq_false (by omega)
    have hd2 : decide ((31 : Int) < (W : Int)) = false := decide_eq_false (by omega)
    have hlv := hv1.up hu2
    have hllt := hv1.lt
    have hsz1 := hU1.size
    have hsz2 := hu2.size
    obtain ⟨A, c, hb, ho⟩ := hpa
    have holt := ho.lt
    have hgl := hb.lt
    have ho := ho.mono hsz1
    have hwsl : ws.length ≤ 40000 := by
      rw [hok.size]
      have : W * x.length ≤ 31 * 40 := Nat.mul_le_mul hW2 h40
      omega
    go_wp2_with fail
    refine ((HFT w2 (hr3.up hu2)).out).mono ?_
    rintro en w3 ⟨rfl, rfl⟩
    clear HFT hd1 hd2
    have hoE : Own (w2.alloc (.cells #[] 3)) w2.heap.size 3 .i64 (.slice (some ⟨w2.heap.size, 0, none⟩) 0 0) [] := Own.lit w2 _ _ _ [] (Nat.le_refl _) (by simp) (by simp) 0 rfl _ rfl
    have hue : Up w2 (w2.alloc (.cells #[] 3)) := (Up.refl w2).alloc _
    go_wp2_with (refine wpl_append (t := 23) w2.heap.size 3 .i64 8 Try.underlying23 infoInt (.slice (some ⟨w2.heap.size, 0, none⟩) 0 0) [] rfl hoE A3 _ c3 x rfl rfl ((hr3.up hu2).up hue) (by simp; omega) (by decide) hue.size ?_; intro v3 w3 hv3 hu3 _)
    have hU3 : Up w2 w3 := hue.thenx hu3 fun i hi e => by have e' : w2.heap.size = i := Option.some.inj e; omega
    rw [List.nil_append] at hv3
    have hflt := hv3.lt
    have hsz3 := hU3.size
    have hv3 := hv3.mono (show w.heap.size ≤ w2.heap.size by omega)
    have HCP := Lib.hid (packedCopy_calls g w.heap.size W x.length ws w3 ⟨A, c, hb.up hU3, ho.up hU3⟩ hwsl)
    have hv3' := hv3
    obtain ⟨A9, c9, rfl, _⟩ := hv3'.rd
    clear hu3 hoE hue hwsl
    go_wp2_with fail
    refine (HCP.out).mono ?_
    rintro en w4 ⟨gc, Ac, cc, rfl, hgc, hbc, hoc, hu4⟩
    have hclt := hoc.lt
    have hI : PlI w4 w.heap.size W g gc Ac cc ws x (.slice A9 x.length c9) A c ws x (.slice A3 x.length c3) :=
      ⟨⟨(hb.up hU3).up hu4, (ho.up hU3).up hu4, hok⟩, (hlv.up hU3).up hu4, hv3.up hu4, ⟨hbc, hoc.mono (by omega), hok⟩, by omega, fun b e1 e2 => by
        have h3 := (holt b ((ob_len A ws.length 0 c c).trans e1)).2
        have h4 := (hclt b ((ob_len Ac ws.length 0 cc cc).trans e2)).1
        omega, fun b e1 e2 => by
        have h3 := (hllt b e1).2
        have h4 := (hflt b e2).1
        omega, by omega⟩
    have hU4 : Up w w4 := ((hU1.trans hu2).trans hU3).trans hu4
    clear HCP hbc hoc hclt hflt hllt holt hlv hv3 hv1 hb ho hgc hgl hg hu4 hU3 hu2 hU2 hU1 hsz1 hsz2 hsz3
    have hr4 : Rd w4 .i64 A3 c3 x := by
      obtain ⟨A', c', e, hr⟩ := hI.l.rd
      cases e
      exact hr
    have HTE := Lib.hid (tells_calls g w.heap.size W ws x A3 c3 w4 hI.a.arr hok hW1 hW2 (by omega) hr4)
    clear hr3 hr4
    go_wp2_with fail
    refine (HTE.out).mono ?_
    rintro en w5 ⟨rfl, hu5⟩
    have hI := hI.up hu5
    have hU5 := hU4.trans hu5
    have HSM := Lib.hid (packedSame_calls g w.heap.size W x.length ws gc w.heap.size W x.length ws w5 hI.a.arr hI.cp.arr)
    rw [decide_eq_true (show W = W ∧ x.length = x.length ∧ ws = ws from ⟨rfl, rfl, rfl⟩)] at HSM
    clear HTE hU4 hu5
    go_wp2_with fail
    refine (HSM.out).mono ?_
    rintro en w6 ⟨rfl, hq6⟩
    have HI := Lib.hid (hI.up hq6.up)
    have HU := Lib.hid (hU5.trans hq6.up)
    clear HSM hI hU5 hq6
    go_wp2_with fail
    go_loopw [1, 6, 11, 12, 13, 14, 15, 16, 17, 18, 19, 20, 139, 174] (fun lv _ i _ _ _ _ _ _ _ _ _ _ _ wr => ∃ (k : Nat) (A : Option Addr) (c : Nat) (wx L : List Int), k ≤ ls.length ∧ k ≤ 20 ∧ i = .int .i64 k ∧ L.length ≤ 40 + 20 * k ∧ Hid (PlI wr w.heap.size W g gc Ac cc ws x (.slice A9 x.length c9) A c wx L lv) ∧ Up w wr) (fun _ _ i _ _ _ _ _ _ _ _ _ _ _ _ => 20 - (intOf i).toNat)
    case atStart => exact ⟨0, A, c, ws, x, Nat.zero_le _, by omega, rfl, by omega, HI, HU.out⟩
    case round =>
      clear HI HU
      obtain ⟨k, A, c, wx, L, hk, hk20, rfl, hLk, HI, hu⟩ := hrel
      obtain ⟨Al, cl, rfl, hrl⟩ := HI.out.l.rd
      by_cases hlt : k < ls.length
      · by_cases h20 : k < 20
        · obtain ⟨z, hz⟩ : ∃ z, ls[k]? = some z := ⟨_, List.getElem?_eq_getElem hlt⟩
          obtain ⟨bz, oz, rfl, q0, q1, q2, Bz, dz, q3, hrz0⟩ := h2.at_ k z hz
          replace q0 := hu.cell q0
          replace q1 := hu.cell q1
          replace q2 := hu.cell q2
          replace q3 := hu.cell q3
          have hrz := hrz0.up hu
          obtain ⟨hz0, hz1, hz2⟩ := h2.wf z (List.mem_of_getElem? hz)
          obtain ⟨f0, f1, f2, f3⟩ := z
          simp only at q0 q1 q2 q3 hrz hrz0 hz0 hz1 hz2
          have hX0 := Blk.new wr 70 #[.int .i64 0, .int .i64 0, .int .i64 0, .slice none 0 0]
          have z0 := hX0.cell 0
          have z1 := hX0.cell 1
          have z2 := hX0.cell 2
          have z3 := hX0.cell 3
          simp only [List.getElem?_toArray, List.getElem?_cons_succ, List.getElem?_cons_zero] at z0 z1 z2 z3
          have y0 := hX0.frozen 0
          have y1 := hX0.frozen 1
          have y2 := hX0.frozen 2
          have y3 := hX0.frozen 3
          have hX := Blk.new wr 70 #[.int .i64 f0, .int .i64 f1, .int .i64 f2, .slice Bz f3.length dz]
          have hua : Up wr (wr.alloc (.cells #[.int .i64 f0, .int .i64 f1, .int .i64 f2, .slice Bz f3.length dz] 70)) := (Up.refl wr).alloc _
          have HIX := Lib.hid (HI.out.up hua)
          have HUX := Lib.hid (hu.trans hua)
          have hrlx := hrl.up hua
          have hrzx := hrz.up hua
          clear hz hX0
          have hkr : (IntKind.u64.wrap f0).tmod 3 = 0 ∨ (IntKind.u64.wrap f0).tmod 3 = 1 ∨ (IntKind.u64.wrap f0).tmod 3 = 2 := by
            rw [IntKind.wrap_u64, Int.tmod_eq_emod_of_nonneg (by omega)]
            omega
          have hLb : L.length ≤ 440 := by omega
          rcases hkr with hkr | hkr | hkr
          · by_cases his : 0 ≤ f1 ∧ f1 < (L.length : Int)
            · obtain ⟨i, rfl⟩ := Int.eq_ofNat_of_zero_le his.1
              have hil : i < L.length := by omega
              cases hff : fitB W [f2] with
              | true =>
                have hv0 : 0 ≤ f2 := (fit1_get hff 0 (by simp)).1
                obtain ⟨v, rfl⟩ := Int.eq_ofNat_of_zero_le hv0
                have HST := Lib.hid (packedSet_ok g w.heap.size W wx L A c i v _ HIX.out.a.b HIX.out.a.o HIX.out.a.k hW1 hW2 (by omega) hil hff)
                have HFF := Lib.hid hff
                clear his hff hv0
                go_wp2_with fail
                refine (HST.out).mono ?_
                rintro en w7 ⟨rfl, ⟨ws7, hb7, ho7, hk7⟩, hx7⟩
                obtain ⟨p1, p2, p3, p4⟩ := HIX.out.set hx7 (L' := L.set i (v : Int)) (List.length_set ..) hb7 ho7 hk7
                have hX7 := hX.upx hx7 fun e9 => hX.notOwn HIX.out.a.o (by decide) ((ob_len A wx.length 0 c c).trans e9)
                have hU7 : Up w w7 := HUX.out.thenx hx7 fun j hj e9 => by
                  have := (HIX.out.a.o.lt j ((ob_len A wx.length 0 c c).trans e9)).1
                  omega
                have hr7 := rd_one w7 .i64 3 (v : Int) hz2
                have hu78 : Up w7 (w7.alloc (.cells #[.int .i64 v] 3)) := (Up.refl w7).alloc _
                have HFT := Lib.hid (ref12Fits_calls W hW1 hW2 _ 1 [(v : Int)] _ hr7)
                rw [HFF.out] at HFT
                have x2 : w7.cell? ⟨wr.heap.size, 2, none⟩ = some (.int .i64 (v : Int)) := hX7.cell 2
                have HG := Lib.hid (And.intro HIX.out.gne (And.intro HIX.out.wne (And.intro HIX.out.lne HIX.out.gb)))
                clear HST HIX HUX hX hb7 ho7 hk7 hx7 hr7 hrlx hrzx
                go_wp2_with fail
                refine (HFT.out).mono ?_
                rintro en w8 ⟨rfl, rfl⟩
                have q1' := (hX7.up hu78).cell 1
                have q2' := (hX7.up hu78).cell 2
                have q1 : (w7.alloc (.cells #[.int .i64 v] 3)).cell? ⟨wr.heap.size, 1, none⟩ = some (.int .i64 (i : Int)) := q1'
                have q2 : (w7.alloc (.cells #[.int .i64 v] 3)).cell? ⟨wr.heap.size, 2, none⟩ = some (.int .i64 (v : Int)) := q2'
                have p1 := p1.up hu78
                have p2 := p2.up hu78
                have p3 := p3.up hu78
                have p4 := p4.up hu78
                have hU8 := hU7.trans hu78
                clear HFT x2 hX7 hu78 hU7 q1' q2'
                generalize (w7.alloc (.cells #[.int .i64 v] 3)) = w8 at *
                obtain ⟨gl, cl', e9, hgl9, hcl9, hfl9, hset9⟩ := p2.store i hil
                cases e9
                have HI2 : Hid (PlI (w8.setCell ⟨gl, i, none⟩ (.int .i64 (v : Int))) w.heap.size W g gc Ac cc ws x (.slice A9 x.length c9) A c ws7 (L.set i (v : Int)) (.slice (some ⟨gl, 0, none⟩) L.length cl)) := Lib.hid (PlI.put p1 p2 p3 p4 HG.out.1 HG.out.2.1 HG.out.2.2.1 HG.out.2.2.2 ((UpX.one w8 gl i _).mono (by rintro j _ rfl; rfl)) (hset9 v hz2))
                have HU2 := Lib.hid (hU8.setCell (p := ⟨gl, i, none⟩) hgl9 (.int .i64 (v : Int)))
                have hrl2 : Rd (w8.setCell ⟨gl, i, none⟩ (.int .i64 (v : Int))) .i64 (some ⟨gl, 0, none⟩) cl (L.set i (v : Int)) := by
                  obtain ⟨A', c', e, hr⟩ := HI2.out.l.rd
                  rw [List.length_set] at e
                  cases e
                  exact hr
                clear p1 p2 p3 p4 hset9 hU8 HG
                have HTE := Lib.hid (tells_calls g w.heap.size W _ _ _ _ _ HI2.out.a.arr HI2.out.a.k hW1 hW2 (by rw [List.length_set]; omega) hrl2)
                rw [List.length_set] at HTE
                go_wp2_with fail
                refine (HTE.out).mono ?_
                rintro en wt ⟨rfl, hut⟩
                have HI3 := Lib.hid (HI2.out.up hut)
                have HU3 := Lib.hid (HU2.out.trans hut)
                clear HTE hut HI2 HU2 hrl2
                go_wp2_with fail
                refine ⟨⟨k + 1, _, _, _, _, by omega, by omega, by simp, by rw [List.length_set]; omega, HI3, HU3.out⟩, ?_⟩
                simp [intOf]; omega
              | false =>
                have HST := Lib.hid (packedSet_bad g w.heap.size W L.length wx (i : Int) f2 _ HIX.out.a.arr hW2 hz2 (.inr hff))
                have HFF := Lib.hid hff
                clear his hff
                go_wp2_with fail
                refine (HST.out).mono ?_
                rintro en w7 ⟨rfl, hu7⟩
                have hX7 := hX.up hu7
                have hr7 := rd_one w7 .i64 3 f2 hz2
                have hu78 : Up w7 (w7.alloc (.cells #[.int .i64 f2] 3)) := (Up.refl w7).alloc _
                have HFT := Lib.hid (ref12Fits_calls W hW1 hW2 _ 1 [f2] _ hr7)
                rw [HFF.out] at HFT
                have x2 : w7.cell? ⟨wr.heap.size, 2, none⟩ = some (.int .i64 f2) := hX7.cell 2
                have HI2 := Lib.hid ((HIX.out.up hu7).up hu78)
                have HU2 := Lib.hid ((HUX.out.trans hu7).trans hu78)
                have hrl2 := (hrlx.up hu7).up hu78
                clear HST HIX HUX hX hrlx hrzx hX7 hu7 hr7
                go_wp2_with fail
                refine (HFT.out).mono ?_
                rintro en w8 ⟨rfl, rfl⟩
                clear HFT x2 hu78
                have HTE := Lib.hid (tells_calls g w.heap.size W _ _ _ _ _ HI2.out.a.arr HI2.out.a.k hW1 hW2 (by omega) hrl2)
                go_wp2_with fail
                refine (HTE.out).mono ?_
                rintro en wt ⟨rfl, hut⟩
                have HI3 := Lib.hid (HI2.out.up hut)
                have HU3 := Lib.hid (HU2.out.trans hut)
                clear HTE hut HI2 HU2 hrl2
                go_wp2_with fail
                refine ⟨⟨k + 1, _, _, _, _, by omega, by omega, by simp, by omega, HI3, HU3.out⟩, ?_⟩
                simp [intOf]; omega
            · have HST := Lib.hid (packedSet_bad g w.heap.size W L.length wx f1 f2 _ HIX.out.a.arr hW2 hz2 (.inl his))
              by_cases hf1 : 0 ≤ f1
              · have hf2 : (L.length : Int) ≤ f1 := by omega
                have hd2 : decide (f1 < (L.length : Int)) = false := decide_eq_false (by omega)
                clear his
                go_wp2_with fail
                refine (HST.out).mono ?_
                rintro en w7 ⟨rfl, hu7⟩
                have HI2 := Lib.hid (HIX.out.up hu7)
                have HU2 := Lib.hid (HUX.out.trans hu7)
                have hrl2 := hrlx.up hu7
                clear HST HIX HUX hrlx hX hrzx hu7
                have HTE := Lib.hid (tells_calls g w.heap.size W _ _ _ _ _ HI2.out.a.arr HI2.out.a.k hW1 hW2 (by omega) hrl2)
                go_wp2_with fail
                refine (HTE.out).mono ?_
                rintro en wt ⟨rfl, hut⟩
                have HI3 := Lib.hid (HI2.out.up hut)
                have HU3 := Lib.hid (HU2.out.trans hut)
                clear HTE hut HI2 HU2 hrl2
                go_wp2_with fail
                refine ⟨⟨k + 1, _, _, _, _, by omega, by omega, by simp, by omega, HI3, HU3.out⟩, ?_⟩
                simp [intOf]; omega
              · have hf2 : f1 < 0 := by omega
                have hd2 : decide (0 ≤ f1) = false := decide_eq_false (by omega)
                clear his hf1
                go_wp2_with fail
                refine (HST.out).mono ?_
                rintro en w7 ⟨rfl, hu7⟩
                have HI2 := Lib.hid (HIX.out.up hu7)
                have HU2 := Lib.hid (HUX.out.trans hu7)
                have hrl2 := hrlx.up hu7
                clear HST HIX HUX hrlx hX hrzx hu7
                have HTE := Lib.hid (tells_calls g w.heap.size W _ _ _ _ _ HI2.out.a.arr HI2.out.a.k hW1 hW2 (by omega) hrl2)
                go_wp2_with fail
                refine (HTE.out).mono ?_
                rintro en wt ⟨rfl, hut⟩
                have HI3 := Lib.hid (HI2.out.up hut)
                have HU3 := Lib.hid (HU2.out.trans hut)
                clear HTE hut HI2 HU2 hrl2
                go_wp2_with fail
                refine ⟨⟨k + 1, _, _, _, _, by omega, by omega, by simp, by omega, HI3, HU3.out⟩, ?_⟩
                simp [intOf]; omega
          · have hm2 : (min (f3.length : Int) 20).toNat = (f3.take 20).length := by rw [List.length_take]; omega
            have hml : (f3.take 20).length ≤ 20 := List.length_take_le _ _
            have hm0 : Rd w .i64 Bz dz (f3.take 20) := hrz0.take 20
            have hmx := hrzx.take 20
            have hzc := hrz0.le
            generalize f3.take 20 = m at *
            have hBz : ∀ ad, Bz = some ad → 0 < m.length → ¬ (Value.slice A 0 c).ownBlock = some ad.block ∧ ad.block ≠ g := fun ad e9 hp9 => by
              have h3 := hm0.below ad e9 hp9
              refine ⟨fun e8 => ?_, fun e8 => ?_⟩
              · have h4 := (HIX.out.a.o.lt ad.block ((ob_len A wx.length 0 c c).trans e8)).1
                omega
              · have h4 := HIX.out.gb
                omega
            have HAD := Lib.hid (packedAddX_calls g w.heap.size W L.length wx L m A c Bz dz _ HIX.out.a.b HIX.out.a.o HIX.out.a.k hW1 hW2 (by omega) HUX.out.size hmx hBz)
            have HFT := fun w' hr => Lib.hid (ref12Fits_calls W hW1 hW2 Bz dz m w' hr)
            have hul : ∀ w', UpX (fun b => b = g ∨ (Value.slice A 0 c).ownBlock = some b) _ w' → Hid (Up w w') := fun w' hx7 => Lib.hid (HUX.out.thenx hx7 fun j hj e9 => by
              rcases e9 with rfl | e9
              · have h4 := HIX.out.gb; omega
              · have := (HIX.out.a.o.lt j ((ob_len A wx.length 0 c c).trans e9)).1
                omega)
            have HULL := Lib.hid hul
            have HBZ := Lib.hid hBz
            clear hBz hm0 hrz0 hrzx hrz hul
            by_cases hf1 : 0 ≤ f1
            · skip
              go_wp2_with fail
              refine (HAD.out).mono ?_
              rintro en w7 ⟨hx7, hp7⟩
              have hU7 := (HULL.out w7 hx7).out
              have hm7 : Rd w7 .i64 Bz dz m := hmx.upx hx7 fun ad e hp e9 => e9.elim (fun h => (HBZ.out ad e hp).2 h) fun h => (HBZ.out ad e hp).1 h
              have HF7 := HFT w7 hm7
              rcases hp7 with ⟨hff, rfl, hb7, ho7⟩ | ⟨_, hlong, _⟩ | ⟨hff, _, rfl, ws7, A7, c7, hb7, ho7, hnr7, hk7⟩
              · obtain ⟨p1, p2, p3, p4, p5⟩ := HIX.out.add hx7 (L' := L) hb7 ho7 HIX.out.a.k (fun b h => .inl h)
                have HI2 : Hid (PlI w7 w.heap.size W g gc Ac cc ws x (.slice A9 x.length c9) A c wx L (.slice Al L.length cl)) := Lib.hid ⟨p1, p2, p3, p4, HIX.out.gne, p5, HIX.out.lne, HIX.out.gb⟩
                have HU2 := Lib.hid hU7
                have hrl2 : Rd w7 .i64 Al cl L := by
                  obtain ⟨A', c', e, hr⟩ := p2.rd
                  cases e
                  exact hr
                rw [hff] at HF7
                clear hff hb7 ho7 p1 p2 p3 p4 p5 hm7 hU7 hx7 HAD HFT HULL HBZ HIX HUX hX hrlx hmx
                go_wp2_with fail
                refine (HF7.out).mono ?_
                rintro en w8 ⟨rfl, rfl⟩
                have HTE := Lib.hid (tells_calls g w.heap.size W _ _ _ _ _ HI2.out.a.arr HI2.out.a.k hW1 hW2 (by omega) hrl2)
                go_wp2_with fail
                refine (HTE.out).mono ?_
                rintro en wt ⟨rfl, hut⟩
                have HI3 := Lib.hid (HI2.out.up hut)
                have HU3 := Lib.hid (HU2.out.trans hut)
                clear HTE hut HI2 HU2 hrl2
                go_wp2_with fail
                refine ⟨⟨k + 1, _, _, _, _, by omega, by omega, by simp, by omega, HI3, HU3.out⟩, ?_⟩
                simp [intOf]; omega
              · omega
              · rw [← List.length_append] at hb7 hk7
                obtain ⟨p1, p2, p3, p4, p5⟩ := HIX.out.add hx7 (L' := L ++ m) hb7 ho7 hk7 hnr7
                have HG := Lib.hid (And.intro HIX.out.gne (And.intro HIX.out.lne HIX.out.gb))
                rw [hff] at HF7
                have HP := Lib.hid (And.intro p1 (And.intro p3 (And.intro p4 p5)))
                have hsz7 := hU7.size
                clear hff hb7 ho7 hk7 hnr7 p1 p3 p4 p5 hx7 HAD HFT HULL HBZ HIX HUX hX hrlx hmx
                go_wp2_with fail
                refine (HF7.out).mono ?_
                rintro en w8 ⟨rfl, rfl⟩
                have hllt := p2.lt
                go_wp2_with (refine wpl_append3 (t := 23) w.heap.size 3 .i64 8 Try.underlying23 infoInt (.slice Al L.length cl) L rfl p2 Bz _ dz m rfl rfl hm7 (by omega) (by decide) hsz7 ?_; intro v9 w9 hv9 hx9 hn9)
                have HI2 : Hid (PlI w9 w.heap.size W g gc Ac cc ws x (.slice A9 x.length c9) A7 c7 ws7 (L ++ m) v9) := Lib.hid (PlI.app HP.out.1 p2 HP.out.2.1 HP.out.2.2.1 HG.out.1 HP.out.2.2.2 HG.out.2.1 HG.out.2.2 hx9 hv9 hn9)
                have HU2 := Lib.hid (hU7.thenx hx9 fun j hj e9 => by have := (hllt j e9).1; omega)
                obtain ⟨A10, c10, rfl, hrl2⟩ := hv9.rd
                clear HP HG hm7 hU7 hx9 hn9 hv9 p2 HF7 hllt
                have hLm : (L ++ m).length ≤ 40 + 20 * (k + 1) := by rw [List.length_append]; omega
                generalize L ++ m = L' at *
                have HTE := Lib.hid (tells_calls g w.heap.size W _ _ _ _ _ HI2.out.a.arr HI2.out.a.k hW1 hW2 (by omega) hrl2)
                refine (HTE.out).mono ?_
                rintro en wt ⟨rfl, hut⟩
                have HI3 := Lib.hid (HI2.out.up hut)
                have HU3 := Lib.hid (HU2.out.trans hut)
                clear HTE hut HI2 HU2 hrl2
                go_wp2_with fail
                refine ⟨⟨k + 1, _, _, _, _, by omega, by omega, by simp, by omega, HI3, HU3.out⟩, ?_⟩
                simp [intOf]; omega
            · have hf2 : f1 < 0 := by omega
              have hd2 : decide (0 ≤ f1) = false := decide_eq_false (by omega)
              clear hf1
              go_wp2_with fail
              refine (HAD.out).mono ?_
              rintro en w7 ⟨hx7, hp7⟩
              have hU7 := (HULL.out w7 hx7).out
              have hm7 : Rd w7 .i64 Bz dz m := hmx.upx hx7 fun ad e hp e9 => e9.elim (fun h => (HBZ.out ad e hp).2 h) fun h => (HBZ.out ad e hp).1 h
              have HF7 := HFT w7 hm7
              rcases hp7 with ⟨hff, rfl, hb7, ho7⟩ | ⟨_, hlong, _⟩ | ⟨hff, _, rfl, ws7, A7, c7, hb7, ho7, hnr7, hk7⟩
              · obtain ⟨p1, p2, p3, p4, p5⟩ := HIX.out.add hx7 (L' := L) hb7 ho7 HIX.out.a.k (fun b h => .inl h)
                have HI2 : Hid (PlI w7 w.heap.size W g gc Ac cc ws x (.slice A9 x.length c9) A c wx L (.slice Al L.length cl)) := Lib.hid ⟨p1, p2, p3, p4, HIX.out.gne, p5, HIX.out.lne, HIX.out.gb⟩
                have HU2 := Lib.hid hU7
                have hrl2 : Rd w7 .i64 Al cl L := by
                  obtain ⟨A', c', e, hr⟩ := p2.rd
                  cases e
                  exact hr
                rw [hff] at HF7
                clear hff hb7 ho7 p1 p2 p3 p4 p5 hm7 hU7 hx7 HAD HFT HULL HBZ HIX HUX hX hrlx hmx
                go_wp2_with fail
                refine (HF7.out).mono ?_
                rintro en w8 ⟨rfl, rfl⟩
                have HTE := Lib.hid (tells_calls g w.heap.size W _ _ _ _ _ HI2.out.a.arr HI2.out.a.k hW1 hW2 (by omega) hrl2)
                go_wp2_with fail
                refine (HTE.out).mono ?_
                rintro en wt ⟨rfl, hut⟩
                have HI3 := Lib.hid (HI2.out.up hut)
                have HU3 := Lib.hid (HU2.out.trans hut)
                clear HTE hut HI2 HU2 hrl2
                go_wp2_with fail
                refine ⟨⟨k + 1, _, _, _, _, by omega, by omega, by simp, by omega, HI3, HU3.out⟩, ?_⟩
                simp [intOf]; omega
              · omega
              · rw [← List.length_append] at hb7 hk7
                obtain ⟨p1, p2, p3, p4, p5⟩ := HIX.out.add hx7 (L' := L ++ m) hb7 ho7 hk7 hnr7
                have HG := Lib.hid (And.intro HIX.out.gne (And.intro HIX.out.lne HIX.out.gb))
                rw [hff] at HF7
                have HP := Lib.hid (And.intro p1 (And.intro p3 (And.intro p4 p5)))
                have hsz7 := hU7.size
                clear hff hb7 ho7 hk7 hnr7 p1 p3 p4 p5 hx7 HAD HFT HULL HBZ HIX HUX hX hrlx hmx
                go_wp2_with fail
                refine (HF7.out).mono ?_
                rintro en w8 ⟨rfl, rfl⟩
                have hllt := p2.lt
                go_wp2_with (refine wpl_append3 (t := 23) w.heap.size 3 .i64 8 Try.underlying23 infoInt (.slice Al L.length cl) L rfl p2 Bz _ dz m rfl rfl hm7 (by omega) (by decide) hsz7 ?_; intro v9 w9 hv9 hx9 hn9)
                have HI2 : Hid (PlI w9 w.heap.size W g gc Ac cc ws x (.slice A9 x.length c9) A7 c7 ws7 (L ++ m) v9) := Lib.hid (PlI.app HP.out.1 p2 HP.out.2.1 HP.out.2.2.1 HG.out.1 HP.out.2.2.2 HG.out.2.1 HG.out.2.2 hx9 hv9 hn9)
                have HU2 := Lib.hid (hU7.thenx hx9 fun j hj e9 => by have := (hllt j e9).1; omega)
                obtain ⟨A10, c10, rfl, hrl2⟩ := hv9.rd
                clear HP HG hm7 hU7 hx9 hn9 hv9 p2 HF7 hllt
                have hLm : (L ++ m).length ≤ 40 + 20 * (k + 1) := by rw [List.length_append]; omega
                generalize L ++ m = L' at *
                have HTE := Lib.hid (tells_calls g w.heap.size W _ _ _ _ _ HI2.out.a.arr HI2.out.a.k hW1 hW2 (by omega) hrl2)
                refine (HTE.out).mono ?_
                rintro en wt ⟨rfl, hut⟩
                have HI3 := Lib.hid (HI2.out.up hut)
                have HU3 := Lib.hid (HU2.out.trans hut)
                clear HTE hut HI2 HU2 hrl2
                go_wp2_with fail
                refine ⟨⟨k + 1, _, _, _, _, by omega, by omega, by simp, by omega, HI3, HU3.out⟩, ?_⟩
                simp [intOf]; omega
          · by_cases his : 0 ≤ f1 ∧ f1 < (L.length : Int)
            · obtain ⟨i, rfl⟩ := Int.eq_ofNat_of_zero_le his.1
              have hil : i < L.length := by omega
              have HAT := Lib.hid (packedAt_in g w.heap.size W wx L i _ HIX.out.a.arr HIX.out.a.k hW1 hW2 (by omega) hil)
              obtain ⟨adl, v, rfl, hcl, HV, _⟩ := hrlx.get i hil
              rw [HV.out] at HAT
              clear his
              go_wp2_with fail
              refine (HAT.out).mono ?_
              rintro en w7 ⟨rfl, hq7⟩
              have HI2 := Lib.hid (HIX.out.up hq7.up)
              have HU2 := Lib.hid (HUX.out.trans hq7.up)
              have hrl2 := hrlx.up hq7.up
              have hcl2 := hq7.up.cell hcl
              have hX2 := hX.up hq7.up
              have x1 : w7.cell? ⟨wr.heap.size, 1, none⟩ = some (.int .i64 (i : Int)) := hX2.cell 1
              clear HAT HIX HUX hrlx hcl hX hrzx hq7
              have HTE := Lib.hid (tells_calls g w.heap.size W _ _ _ _ _ HI2.out.a.arr HI2.out.a.k hW1 hW2 (by omega) hrl2)
              go_wp2_with fail
              refine (HTE.out).mono ?_
              rintro en wt ⟨rfl, hut⟩
              have HI3 := Lib.hid (HI2.out.up hut)
              have HU3 := Lib.hid (HU2.out.trans hut)
              clear HTE hut HI2 HU2 hrl2
              go_wp2_with fail
              refine ⟨⟨k + 1, _, _, _, _, by omega, by omega, by simp, by omega, HI3, HU3.out⟩, ?_⟩
              simp [intOf]; omega
            · have HAT := Lib.hid (packedAt_out g w.heap.size W L.length wx f1 _ HIX.out.a.arr his)
              have HI2 := HIX
              have HU2 := HUX
              have hrl2 := hrlx
              by_cases hf1 : 0 ≤ f1
              · have hf2 : (L.length : Int) ≤ f1 := by omega
                have hd2 : decide (f1 < (L.length : Int)) = false := decide_eq_false (by omega)
                clear his
                go_wp2_with fail
                refine (HAT.out).mono ?_
                rintro en w7 ⟨rfl, rfl⟩
                clear HAT HIX HUX hrlx hX hrzx
                have HTE := Lib.hid (tells_calls g w.heap.size W _ _ _ _ _ HI2.out.a.arr HI2.out.a.k hW1 hW2 (by omega) hrl2)
                go_wp2_with fail
                refine (HTE.out).mono ?_
                rintro en wt ⟨rfl, hut⟩
                have HI3 := Lib.hid (HI2.out.up hut)
                have HU3 := Lib.hid (HU2.out.trans hut)
                clear HTE hut HI2 HU2 hrl2
                go_wp2_with fail
                refine ⟨⟨k + 1, _, _, _, _, by omega, by omega, by simp, by omega, HI3, HU3.out⟩, ?_⟩
                simp [intOf]; omega
              · have hf2 : f1 < 0 := by omega
                have hd2 : decide (0 ≤ f1) = false := decide_eq_false (by omega)
                clear his hf1
                go_wp2_with fail
                refine (HAT.out).mono ?_
                rintro en w7 ⟨rfl, rfl⟩
                clear HAT HIX HUX hrlx hX hrzx
                have HTE := Lib.hid (tells_calls g w.heap.size W _ _ _ _ _ HI2.out.a.arr HI2.out.a.k hW1 hW2 (by omega) hrl2)
                go_wp2_with fail
                refine (HTE.out).mono ?_
                rintro en wt ⟨rfl, hut⟩
                have HI3 := Lib.hid (HI2.out.up hut)
                have HU3 := Lib.hid (HU2.out.trans hut)
                clear HTE hut HI2 HU2 hrl2
                go_wp2_with fail
                refine ⟨⟨k + 1, _, _, _, _, by omega, by omega, by simp, by omega, HI3, HU3.out⟩, ?_⟩
                simp [intOf]; omega
        · have hk2 : k = 20 := by omega
          have HU := Lib.hid hu
          clear hu
          go_wp2_with fail
          refine (law12known_calls wr).mono ?_
          rintro en w7 ⟨rfl, hu7⟩
          have HI2 := Lib.hid (HI.out.up hu7)
          have HU2 := Lib.hid (HU.out.trans hu7)
          have hrl2 := hrl.up hu7
          have hrf2 : Rd w7 .i64 A9 c9 x := by
            obtain ⟨A', c', e, hr⟩ := HI2.out.f.rd
            cases e
            exact hr
          clear HI HU hrl hu7
          have HTE := Lib.hid (tells_calls gc w.heap.size W ws x A9 c9 w7 HI2.out.cp.arr HI2.out.cp.k hW1 hW2 (by omega) hrf2)
          go_wp2_with fail
          refine (HTE.out).mono ?_
          rintro en w8 ⟨rfl, hu8⟩
          have HI3 := Lib.hid (HI2.out.up hu8)
          have HU3 := Lib.hid (HU2.out.trans hu8)
          have hrl3 := hrl2.up hu8
          have hrf3 := hrf2.up hu8
          clear HTE HI2 HU2 hrl2 hrf2 hu8
          have HSM := Lib.hid (packedSame_calls g w.heap.size W L.length wx gc w.heap.size W x.length ws w8 HI3.out.a.arr HI3.out.cp.arr)
          have HDE := Lib.hid (show decide (W = W ∧ L.length = x.length ∧ wx = ws) = decide (L = x) by
            refine decide_eq_decide.2 ⟨fun ⟨_, e1, e2⟩ => ?_, fun e => ?_⟩
            · have hk1 := HI3.out.a.k
              rw [e1, e2] at hk1
              exact hk1.inj hW1 HI3.out.cp.k
            · have hk1 := HI3.out.a.k
              have hw1 := HI3.out.a.o.wf
              rw [e] at hk1
              exact ⟨rfl, by rw [e], hk1.same HI3.out.cp.k hw1 HI3.out.cp.o.wf⟩)
          rw [HDE.out] at HSM
          generalize hdl : decide (L = x) = dl at *
          have HDL := Lib.hid hdl
          clear hdl HDE
          go_wp2_with fail
          refine (HSM.out).mono ?_
          rintro en w9 ⟨rfl, hq9⟩
          have HS6 := Lib.hid (ref6Same_calls Al A9 cl c9 L x w9 (hrl3.up hq9.up) (hrf3.up hq9.up))
          rw [HDL.out] at HS6
          have HU4 := Lib.hid (HU3.out.trans hq9.up)
          clear HSM hq9 hrl3 hrf3 HI3 HU3
          go_wp2_with fail
          refine (HS6.out).mono ?_
          rintro en w10 ⟨rfl, hq10⟩
          have HU5 := Lib.hid (HU4.out.trans hq10.up)
          clear HS6 hq10
          have hdd : (dl == dl) = true := by simp
          go_wp2_with fail
          go_ret
          exact ⟨by first | rfl | simp, HU5.out⟩
      · skip
        have HU := Lib.hid hu
        clear hu
        go_wp2_with fail
        refine (law12known_calls wr).mono ?_
        rintro en w7 ⟨rfl, hu7⟩
        have HI2 := Lib.hid (HI.out.up hu7)
        have HU2 := Lib.hid (HU.out.trans hu7)
        have hrl2 := hrl.up hu7
        have hrf2 : Rd w7 .i64 A9 c9 x := by
          obtain ⟨A', c', e, hr⟩ := HI2.out.f.rd
          cases e
          exact hr
        clear HI HU hrl hu7
        have HTE := Lib.hid (tells_calls gc w.heap.size W ws x A9 c9 w7 HI2.out.cp.arr HI2.out.cp.k hW1 hW2 (by omega) hrf2)
        go_wp2_with fail
        refine (HTE.out).mono ?_
        rintro en w8 ⟨rfl, hu8⟩
        have HI3 := Lib.hid (HI2.out.up hu8)
        have HU3 := Lib.hid (HU2.out.trans hu8)
        have hrl3 := hrl2.up hu8
        have hrf3 := hrf2.up hu8
        clear HTE HI2 HU2 hrl2 hrf2 hu8
        have HSM := Lib.hid (packedSame_calls g w.heap.size W L.length wx gc w.heap.size W x.length ws w8 HI3.out.a.arr HI3.out.cp.arr)
        have HDE := Lib.hid (show decide (W = W ∧ L.length = x.length ∧ wx = ws) = decide (L = x) by
          refine decide_eq_decide.2 ⟨fun ⟨_, e1, e2⟩ => ?_, fun e => ?_⟩
          · have hk1 := HI3.out.a.k
            rw [e1, e2] at hk1
            exact hk1.inj hW1 HI3.out.cp.k
          · have hk1 := HI3.out.a.k
            have hw1 := HI3.out.a.o.wf
            rw [e] at hk1
            exact ⟨rfl, by rw [e], hk1.same HI3.out.cp.k hw1 HI3.out.cp.o.wf⟩)
        rw [HDE.out] at HSM
        generalize hdl : decide (L = x) = dl at *
        have HDL := Lib.hid hdl
        clear hdl HDE
        go_wp2_with fail
        refine (HSM.out).mono ?_
        rintro en w9 ⟨rfl, hq9⟩
        have HS6 := Lib.hid (ref6Same_calls Al A9 cl c9 L x w9 (hrl3.up hq9.up) (hrf3.up hq9.up))
        rw [HDL.out] at HS6
        have HU4 := Lib.hid (HU3.out.trans hq9.up)
        clear HSM hq9 hrl3 hrf3 HI3 HU3
        go_wp2_with fail
        refine (HS6.out).mono ?_
        rintro en w10 ⟨rfl, hq10⟩
        have HU5 := Lib.hid (HU4.out.trans hq10.up)
        clear HS6 hq10
        have hdd : (dl == dl) = true := by simp
        go_wp2_with fail
        go_ret
        exact ⟨by first | rfl | simp, HU5.out⟩
end Go.Proofs.Ytneliajeokajbaa
