/- FrameTears: whatever the arguments, the law returns true, and they read as before. Conditions: none. -/
import Derived.Test.YtehdigkjbobndaaRows
import Derived.Test.YtehdigkjbobndaaOpen
import Derived.Test.YtehdigkjbobndaaFrmTwRow
namespace Go.Proofs.Ytehdigkjbobndaa.FrameTears
open Go.ChangeShapes Go.WideShapes Go.ChangeAt Go.RowKit Go.Proofs.Ytehdigkjbobndaa Go.Proofs.YtehdigkjbobndaaW.PrintWords
set_option linter.unusedVariables false
theorem own_ : ownKnob Try.prog.godebug = none := by kernel_rfl
theorem laidOutB_ : laidOutB Try.prog = true := by kernel_rfl

set_option maxRecDepth 100000 in
theorem lifted (os : Os) (started : os.Started) (H : Type) (enc : TypeId × Value → H) :
    ReturnsInHanded {} Try.checked os 8 .any (Rows.frameTearsSpec.pre6 enc Try.prog Try.f8 Rows.frameTearsRow.domain false) (Rows.frameTearsSpec.post enc Try.prog Try.f8 false true false false) := by
  refine returnsInHanded_of_change (C := Try.checked) own_ started (by kernel_rfl) Try.func8
    (ChangeSpec.witness6 (enc := enc) (C := Try.checked) false ⟨#[], #[.agg #[.int .i64 0, .int .i64 0, .int .i64 0, .slice none 0 0], .agg #[.int .i64 0, .int .i64 0, .int .i64 0, .slice none 0 0], .int .i64 0], []⟩ 8 (by kernel_rfl) (by kernel_rfl) (by kernel_rfl) (by kernel_rfl)) ?_
  intro W base args ds gs before hval0 hW hcnd _
  have hval : ∀ (j : Nat) t v, Try.f8.params[j]? = some t → args[j]? = some v → Value.okWide Try.prog W .any base t v := hval0
  have hW' := hW
  obtain ⟨p, q, hA0, hV, rfl, hfz, hnd⟩ := hW
  have hA : DataW.TrodAll enc Try.prog W 0 (fun _ => true) true Try.f8.params.toList args.toList ds p := hA0
  rw [Try.params8] at hA hval
  obtain ⟨v0, vs0, d0, ds0, p0, q0, hargs, rfl, rfl, h0, r0⟩ := trodAll_cons hA
  obtain ⟨v1, vs1, d1, ds1, p1, q1, rfl, rfl, rfl, h1, r1⟩ := trodAll_cons r0
  obtain ⟨v2, vs2, d2, ds2, p2, q2, rfl, rfl, rfl, h2, r2⟩ := trodAll_cons r1
  obtain ⟨rfl, rfl, rfl⟩ := trodAll_nil r2
  obtain rfl : args = #[v0, v1, v2] := by cases args; simp_all
  obtain ⟨rfl, rfl⟩ := trodVars_none hV
  have k0 := h0
  have lt0 : ∀ x ∈ p0, x.block < W.heap.size := by obtain ⟨m, hm⟩ := k0; exact DataW.trod_lt m _ _ _ hm
  obtain ⟨cs0, rfl, _⟩ := okWide_struct Try.underlying66 (hval 0 66 v0 rfl rfl)
  obtain ⟨x0, w0, hK0⟩ := open_struct (d := k66) (Opens.struct (d := (Kd.pair (Kd.int .i64) (Kd.pair (Kd.int .i64) (Kd.pair (Kd.int .i64) (Kd.slice 5 (Kd.int .u8)))))) Try.underlying66 (by kernel_rfl) (OpensF.cons (Opens.int Try.underlying3 (by kernel_rfl)) rfl (OpensF.cons (Opens.int Try.underlying3 (by kernel_rfl)) rfl (OpensF.cons (Opens.int Try.underlying3 (by kernel_rfl)) rfl (OpensF.one (Opens.slice (q := 5) Try.underlying22 (by kernel_rfl) (Opens.int Try.underlying5 (by kernel_rfl))) rfl)))) (fun x : S66 => (x.f0, x.f1, x.f2, x.f3)) (fun a => ⟨a.1, a.2.1, a.2.2.1, a.2.2.2⟩) (fun _ => rfl)) h0
  obtain ⟨A0_3, c0_3, hcs0, hc0_3, hC0_3⟩ := k66_openr hK0
  have ha0 : cs0 = _ := Array.toList_inj.1 hcs0
  subst ha0
  have k1 := h1
  have lt1 : ∀ x ∈ p1, x.block < W.heap.size := by obtain ⟨m, hm⟩ := k1; exact DataW.trod_lt m _ _ _ hm
  obtain ⟨cs1, rfl, _⟩ := okWide_struct Try.underlying66 (hval 1 66 v1 rfl rfl)
  obtain ⟨x1, w1, hK1⟩ := open_struct (d := k66) (Opens.struct (d := (Kd.pair (Kd.int .i64) (Kd.pair (Kd.int .i64) (Kd.pair (Kd.int .i64) (Kd.slice 5 (Kd.int .u8)))))) Try.underlying66 (by kernel_rfl) (OpensF.cons (Opens.int Try.underlying3 (by kernel_rfl)) rfl (OpensF.cons (Opens.int Try.underlying3 (by kernel_rfl)) rfl (OpensF.cons (Opens.int Try.underlying3 (by kernel_rfl)) rfl (OpensF.one (Opens.slice (q := 5) Try.underlying22 (by kernel_rfl) (Opens.int Try.underlying5 (by kernel_rfl))) rfl)))) (fun x : S66 => (x.f0, x.f1, x.f2, x.f3)) (fun a => ⟨a.1, a.2.1, a.2.2.1, a.2.2.2⟩) (fun _ => rfl)) h1
  obtain ⟨A1_3, c1_3, hcs1, hc1_3, hC1_3⟩ := k66_openr hK1
  have ha1 : cs1 = _ := Array.toList_inj.1 hcs1
  subst ha1
  have k2 := h2
  have lt2 : ∀ x ∈ p2, x.block < W.heap.size := by obtain ⟨m, hm⟩ := k2; exact DataW.trod_lt m _ _ _ hm
  obtain ⟨a2, rfl, rfl, rfl, w2⟩ := open_int Try.underlying3 (hval 2 3 v2 rfl rfl) h2
  clear hA0 hval0
  refine (tearsRow x0.f0 x0.f1 x0.f2 A0_3 c0_3 x0.f3 x1.f0 x1.f1 x1.f2 A1_3 c1_3 x1.f3 a2 W hC0_3 hc0_3 hC1_3 hc1_3 w0 w1 ⟨w2⟩).mono fun e W' ⟨he, bel0⟩ => ?_
  have bel := bel0.out
  subst he
  exact ⟨_, rfl, _, _, _, [], _, [], hW', trodAll_mk1 (shut_bool Try.underlying4 _), (trodAll_cons_mk (Below.trod laidOutB_ (by kernel_rfl) (of_decide_eq_true (by kernel_rfl)) k0 bel lt0) (trodAll_cons_mk (Below.trod laidOutB_ (by kernel_rfl) (of_decide_eq_true (by kernel_rfl)) k1 bel lt1) (trodAll_cons_mk (Below.trod laidOutB_ (by kernel_rfl) (of_decide_eq_true (by kernel_rfl)) k2 bel lt2) trodAll_mk0))), rfl, bel.frame _, fun h => by cases h⟩

theorem over : Rows.frameTearsRow.holds Try.pinned (OpenSpec.ofChange Rows.frameTearsSpec) :=
  OpenClaim.holds_of_wide 8 Try.f8 rfl rfl rfl rfl rfl rfl rfl ⟨rfl, rfl, rfl, rfl, rfl⟩ rfl rfl rfl rfl rfl (by kernel_rfl) Try.func8 (by kernel_rfl)
    (of_decide_eq_true (by kernel_rfl)) (by unfold Func.isWrapper; first | (rw [if_pos (by decide +kernel)]; kernel_rfl) | (rw [if_neg (by decide +kernel)]; exact ⟨rfl, rfl⟩))
    (fun os started H enc _ => lifted os started H enc)

/-- The statement. -/
theorem proved : Rows.FrameTearsSaid := over
end Go.Proofs.Ytehdigkjbobndaa.FrameTears
