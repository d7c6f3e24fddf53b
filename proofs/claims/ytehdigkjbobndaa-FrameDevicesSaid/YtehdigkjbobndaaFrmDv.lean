/- Layer 4: Write and Read of a frame. -/
import Derived.Test.YtehdigkjbobndaaFrmV
import Derived.Test.YtehdigkjbobndaaDevMB
namespace Go.Proofs.Ytehdigkjbobndaa
open Go.RowKit Go.Proofs.Ytehdigkjbobndaa.FrmVPure Go.Proofs.YtehdigkjbobndaaW.PrintWords
set_option maxRecDepth 100000

def frmWriteR (s : DSt) (k e p : Int) (b : List Int) : Int := if frmCheck k e p b = 0 then devWriteR s p (frmEnc k e p b) else frmCheck k e p b
def frmWriteS (s : DSt) (k e p : Int) (b : List Int) : DSt := if frmCheck k e p b = 0 then devWriteS s p (frmEnc k e p b) else s
set_option maxHeartbeats 1000000 in
theorem frmWrite_calls (g : Nat) (S : Nat → Prop) (s : DSt) (k e p : Int) (A : Option Addr) (c : Nat) (b : List Int) (w : World) (h : DevI w g S s) (hr : Rd w .u8 A c b) (hwr : s.wr < 1000000000000) :
    Calls Try.prog 51 #[.pointer (some ⟨g, 0, none⟩), .agg #[.int .i64 k, .int .i64 e, .int .i64 p, .slice A b.length c]] w fun en w' => en = .returned (.int .i64 (frmWriteR s k e p b)) ∧ DevTo w g S (frmWriteS s k e p b) w' := by
  have hu0 : Up w (w.alloc (.cells #[.int .i64 k, .int .i64 e, .int .i64 p, .slice A b.length c] 67)) := (Up.refl w).alloc _
  have hB0 := Blk.new w 67 #[.int .i64 k, .int .i64 e, .int .i64 p, .slice A b.length c]
  have HEN := Lib.hid (frmEncode_all k e p A c b _ (hr.up hu0))
  have HI := Lib.hid (h.up hu0)
  have HLT := Lib.hid h.lt
  clear hr h
  go_enter Try.func51, Try.ntmps51
  go_wp2_with fail
  refine (HEN.out).mono ?_
  intro en w1 hen
  obtain ⟨v, rfl, hv, hu1⟩ := hen.out
  have HI1 := Lib.hid (HI.out.up hu1)
  have hb1 := hB0.up hu1
  have q2 := hb1.cell 2
  simp only [List.getElem?_toArray, List.getElem?_cons_succ, List.getElem?_cons_zero] at q2
  have hU := hu0.trans hu1
  by_cases hc : frmCheck k e p b = 0
  · have HR := Lib.hid (show frmWriteR s k e p b = devWriteR s p (frmEnc k e p b) ∧ frmWriteS s k e p b = devWriteS s p (frmEnc k e p b) by unfold frmWriteR frmWriteS; rw [if_pos hc, if_pos hc]; exact ⟨rfl, rfl⟩)
    rw [if_pos hc] at hv
    rw [hc]
    obtain ⟨B, d, rfl, hr1⟩ := hv.rd
    have HW := Lib.hid (devWrite_to g S s w1 HI1.out p B d _ (frmEnc k e p b) hr1 rfl hwr (fun ad e2 _ hs => by have := (hv.blk ad e2).1; have := HLT.out _ hs; have := hu0.size; omega))
    generalize (frmEnc k e p b).length = n at *
    generalize devWriteR s p (frmEnc k e p b) = er at *
    clear hc hv hr1 HEN HI HI1 hb1 hu1 hen
    go_wp2_with fail
    refine (HW.out).mono ?_
    rintro en w2 ⟨rfl, hd⟩
    have HD := Lib.hid hd
    clear hd HW
    go_wp2_with fail
    go_ret
    refine ⟨by rw [HR.out.1]; rfl, ?_⟩
    rw [HR.out.2]
    obtain ⟨S', h1, h2, h3⟩ := HD.out.out
    exact ⟨S', h1, (hU.x S).trans h2, fun b hb => (h3 b hb).imp id fun h4 => by have := hU.size; omega⟩
  · have HR := Lib.hid (show frmWriteR s k e p b = frmCheck k e p b ∧ frmWriteS s k e p b = s by unfold frmWriteR frmWriteS; rw [if_neg hc, if_neg hc]; exact ⟨rfl, rfl⟩)
    have hcn : (frmCheck k e p b != 0) = true := by simp [hc]
    obtain ⟨B, d, rfl, hr1⟩ := hv.rd
    clear hv hr1 HEN HI hb1 hu1 hen
    generalize frmCheck k e p b = f at *
    go_wp2_with fail
    go_ret
    refine ⟨by rw [HR.out.1]; rfl, ?_⟩
    rw [HR.out.2]
    exact ⟨S, HI1.out, hU.x S, fun b hb => .inl hb⟩
def frmReadR (s : DSt) (page : Int) (ks : List Int) : Int × Int × Int × List Int × Int := if devErr s page = 0 then openD (frmDec (devSees s page.toNat)) page ks else (0, 0, 0, [], devErr s page)
structure FReadPost (w : World) (g : Nat) (S : Nat → Prop) (s : DSt) (page : Int) (r : Int × Int × Int × List Int × Int) (en : Ending) (w' : World) : Prop where mk ::
  out : ∃ v, en = .returned (.tuple #[.agg #[.int .i64 r.1, .int .i64 r.2.1, .int .i64 r.2.2.1, v], .int .i64 r.2.2.2.2]) ∧ Own w' w.heap.size 5 .u8 v r.2.2.2.1 ∧ DevI w' g S (readS s page) ∧ UpX (fun b => b = g) w w'
set_option maxHeartbeats 1000000 in
theorem frmRead_calls (g : Nat) (S : Nat → Prop) (s : DSt) (page : Int) (A2 : Option Addr) (c2 : Nat) (ks : List Int) (w : World) (h : DevI w g S s) (hr : Rd w .i64 A2 c2 ks) (hk : ks.length < 1000000) (hrd : s.rd < 1000000000000) (hA : ∀ ad, A2 = some ad → 0 < ks.length → ¬ S ad.block) :
    Calls Try.prog 52 #[.pointer (some ⟨g, 0, none⟩), .int .i64 page, .slice A2 ks.length c2] w (FReadPost w g S s page (frmReadR s page ks)) := by
  have hu0 : Up w (w.alloc (.cells #[.int .i64 0, .int .i64 0, .int .i64 0, .slice none 0 0] 67)) := (Up.refl w).alloc _
  have hB0 := Blk.new w 67 #[.int .i64 0, .int .i64 0, .int .i64 0, .slice none 0 0]
  have HRD := Lib.hid (devRead_to g S s _ (h.up hu0) page hrd)
  have HLT := Lib.hid h.lt
  have HSG := Lib.hid h.sg
  have hgne : w.heap.size ≠ g := fun e => by have := h.lt g h.sg; omega
  clear h
  go_enter Try.func52, Try.ntmps52
  go_wp2_with fail
  refine (HRD.out).mono ?_
  intro en w1 hs
  obtain ⟨v, rfl, hv, hd, hx⟩ := hs.out
  have hz := hB0.upx hx hgne
  have hzlt := hz.lt
  have hU : UpX (fun b => b = g) w w1 := (hu0.x _).trans hx
  have hr1 := hr.upx hU fun ad e h0 hb => hA ad e h0 (by rw [hb]; exact HSG.out)
  obtain ⟨B, d, rfl, hrv⟩ := hv.rd
  by_cases he : devErr s page = 0
  · have HR := Lib.hid (show frmReadR s page ks = openD (frmDec (devSees s page.toNat)) page ks by unfold frmReadR; rw [if_pos he])
    rw [he]
    have hrl : readL s page = devSees s page.toNat := by unfold readL; rw [if_pos he]
    rw [hrl] at hrv ⊢
    have HO := Lib.hid (frmOpen_calls B d (devSees s page.toNat) page A2 c2 ks w1 hrv hr1 hk)
    generalize devSees s page.toNat = l at *
    generalize openD (frmDec l) page ks = r at *
    have HDI := Lib.hid hd
    generalize l.length = n at *
    generalize ks.length = m at *
    clear hs hv hrv hd hrl hr hr1 HRD he hx
    go_wp2_with fail
    refine (HO.out).mono ?_
    intro en w2 hp
    obtain ⟨v2, rfl, hv2, hu2⟩ := hp.out
    replace hz := hz.up hu2
    have HV2 := Lib.hid hv2
    have HDI2 := Lib.hid (HDI.out.up hu2)
    have HU2 := Lib.hid (hU.trans (hu2.x _))
    obtain ⟨r1, r2, r3, r4, r5⟩ := r
    simp only at *
    obtain ⟨B2, d2, rfl, _⟩ := hv2.rd
    generalize r4.length = n2 at *
    clear hp hv2 HO HDI hU hu2
    have hzs : w.heap.size ≤ w1.heap.size := by omega
    have z0 := hz.cell 0
    have z1 := hz.cell 1
    have z2 := hz.cell 2
    have z3 := hz.cell 3
    simp only [List.getElem?_toArray, List.getElem?_cons_succ, List.getElem?_cons_zero] at z0 z1 z2 z3
    have y0 := hz.frozen 0
    have y1 := hz.frozen 1
    have y2 := hz.frozen 2
    have y3 := hz.frozen 3
    go_wp2_with fail
    refine bodyPost_ret (results_ct (P := Try.prog) (p := 6) (u := 7) (by kernel_rfl) _ _ w.heap.size 67 #[.int .i64 r1, .int .i64 r2, .int .i64 r3, .slice B2 n2 d2] (0, 0) _ rfl (blk_store4 hz _ _ _ _).out Try.underlying67 rfl (by kernel_rfl)) rfl ?_
    have hne : ∀ b, S b → b ≠ w.heap.size := fun b hb e => by have := HLT.out b hb; omega
    have hst : UpX (fun b => b = w.heap.size) w2 ((((w2.setCell ⟨w.heap.size, 0, none⟩ (.int .i64 r1)).setCell ⟨w.heap.size, 1, none⟩ (.int .i64 r2)).setCell ⟨w.heap.size, 2, none⟩ (.int .i64 r3)).setCell ⟨w.heap.size, 3, none⟩ (.slice B2 n2 d2)) :=
      (((UpX.one w2 _ 0 _).trans (UpX.one _ _ 1 _)).trans (UpX.one _ _ 2 _)).trans (UpX.one _ _ 3 _)
    rw [HR.out]
    refine ⟨.slice B2 n2 d2, rfl, (HV2.out.mono ?_).upx hst ?_, HDI2.out.upx hst fun b hb e => hne b hb e, HU2.out.then_ hst fun i hi e => by omega⟩
    · exact hzs
    · intro b hb e
      have := (HV2.out.lt b hb).1
      omega
  · have HR := Lib.hid (show frmReadR s page ks = (0, 0, 0, [], devErr s page) by unfold frmReadR; rw [if_neg he])
    have hrl : readL s page = [] := by unfold readL; rw [if_neg he]
    rw [hrl]
    have hen : (devErr s page != 0) = true := by simp [he]
    have HDI := Lib.hid hd
    have hzs : w.heap.size ≤ w1.heap.size := by omega
    generalize devErr s page = er at *
    generalize ks.length = m at *
    clear hs hv hrv hd hrl hr hr1 HRD he hx
    have z0 := hz.cell 0
    have z1 := hz.cell 1
    have z2 := hz.cell 2
    have z3 := hz.cell 3
    simp only [List.getElem?_toArray, List.getElem?_cons_succ, List.getElem?_cons_zero] at z0 z1 z2 z3
    have y0 := hz.frozen 0
    have y1 := hz.frozen 1
    have y2 := hz.frozen 2
    have y3 := hz.frozen 3
    go_wp2_with fail
    refine bodyPost_ret (results_ct (P := Try.prog) (p := 6) (u := 7) (by kernel_rfl) _ _ w.heap.size 67 #[.int .i64 0, .int .i64 0, .int .i64 0, .slice none 0 0] (0, 0) _ rfl (blk_store4 hz _ _ _ _).out Try.underlying67 rfl (by kernel_rfl)) rfl ?_
    have hne : ∀ b, S b → b ≠ w.heap.size := fun b hb e => by have := HLT.out b hb; omega
    have hst : UpX (fun b => b = w.heap.size) w1 ((((w1.setCell ⟨w.heap.size, 0, none⟩ (.int .i64 0)).setCell ⟨w.heap.size, 1, none⟩ (.int .i64 0)).setCell ⟨w.heap.size, 2, none⟩ (.int .i64 0)).setCell ⟨w.heap.size, 3, none⟩ (.slice none 0 0)) :=
      (((UpX.one w1 _ 0 _).trans (UpX.one _ _ 1 _)).trans (UpX.one _ _ 2 _)).trans (UpX.one _ _ 3 _)
    rw [HR.out]
    exact ⟨.slice none 0 0, rfl, Own.nil _ _ _ _, HDI.out.upx hst fun b hb e => hne b hb e, hU.then_ hst fun i hi e => by omega⟩
end Go.Proofs.Ytehdigkjbobndaa
