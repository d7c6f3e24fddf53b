/- slices.Sorted(slices.Values(l)). -/
import Derived.Test.YtmmacpicbonhhaaRgM
namespace Go.Proofs.Ytmmacpicbonhhaa
open Go.RowKit Go.Shelf
attribute [local go_sem] Oper.semAt_some
set_option maxRecDepth 100000

theorem SeqAt.up {F : Fence} {n : Nat} {P : Program} {g : Nat} {lb : Array Value} {encs : Nat → Array Value} {Kp : World → World → Prop} {m : Nat} {w w' : World} (h : SeqAt F n P g lb encs Kp m w) (hu : Up w w') : SeqAt F n P g lb encs Kp m w' :=
  fun l J W hW => h l J W (hu.out.trans (hW.mono hu.size))

set_option maxHeartbeats 2000000 in
/-- slices.Values: the numbers come, one by one, whatever is done to what is new. -/
theorem valsF_at (F : Fence) (n : Nat) (h8 : F.fn 61) (hro : F.round = none) (hn : 1 ≤ n) (Bs n0 : Nat) (A : Option Addr) (cap : Nat) (zs : List Int) (hreach : zs.length * 8 ≤ 140737488351232) (w : World)
    (hBs : w.cell? ⟨Bs, 0, none⟩ = some (.slice A zs.length cap)) (hr : Rd w .i64 A cap zs) (hA : ∀ ad, A = some ad → ad.block < n0) :
    SeqAt F n Try.prog 61 #[.pointer (some ⟨Bs, 0, none⟩)] (fun k => #[Value.int .i64 (zs.getD k 0)]) (fun W W' => Below n0 W W') zs.length w := fun l J W0 hW _ hY h0 => by
  have hu0 : Up w W0 := ⟨hW⟩
  have hBs0 := hu0.cell hBs
  have hr0 := hr.up hu0
  refine callsIn_of_wp Try.func61 rfl h8 ?_ hro
  simp only [Try.ntmps61, List.size_toArray, List.length_cons, List.length_nil, Nat.reduceAdd, Nat.reduceSub, Array.replicate_succ, Array.replicate_zero, List.push_toArray, List.append_toArray, List.nil_append, List.cons_append]
  gi_wp2
  gi_loopw [7] (fun i wr => ∃ k : Nat, k ≤ zs.length ∧ i = .int .i64 k ∧ J k wr ∧ Below n0 W0 wr)
    (fun i _ => zs.length - (intOf i).toNat)
  case atStart => exact ⟨0, Nat.zero_le _, rfl, h0, Below.refl _ _⟩
  case round =>
    obtain ⟨k, hk, rfl, hJs, hnx⟩ := hrel
    by_cases hlt : k < zs.length
    · obtain ⟨ad, z, rfl, hc, HZ, _⟩ := hr0.get k hlt
      have hc' := (hnx.cell (p := ad.add k) (by rw [add_block]; exact hA _ rfl)).trans hc
      obtain ⟨fn, tmps, assign, body, hy, hR⟩ := hY k wr hlt hJs
      rw [HZ.out] at hy
      clear hc
      gi_wp2
      refine hR.mono ?_
      rintro e W3 ⟨rfl, hJ3, hk3⟩
      gi_wp2
      go_roundw
      case rel => exact ⟨k + 1, by omega, by simp, hJ3, hnx.trans hk3⟩
      case measure => simp [intOf]; omega
    · obtain rfl : k = zs.length := by omega
      gi_wp2
      go_end0
      exact ⟨⟨_, rfl⟩, hJs⟩

theorem grownBy_upx {W W' : World} {row : Option Nat} (hg : W.grownBy W' row) : UpX (fun b => row = some b) W W' := ⟨hg.os, hg.tape, hg.output, hg.size, fun k hk hF => hg.block k hk fun e => hF e.symm⟩
theorem Own.block_of {w : World} {base e : Nat} {k : IntKind} {v : Value} {xs : List Int} (h : Own w base e k v xs) {b : Nat} (hb : v.ownBlock = some b) : ∃ cur, w.heap[b]? = some (.cells cur e (0, 0)) := by
  rcases h.row.2 with ⟨rfl, _⟩ | ⟨g, cap, cur, rfl, _, hg, _⟩
  · cases hb
  · cases hb
    exact ⟨cur, hg⟩
theorem Own.grown {W W' : World} {row : Option Nat} {base e : Nat} {k : IntKind} {v : Value} {xs : List Int} (h : Own W base e k v xs) (hg : W.grownBy W' row) (hr : ∀ r, row = some r → ∃ o : Obj, W.heap[r]? = some o ∧ o.isCells = false) : Own W' base e k v xs :=
  h.upx (grownBy_upx hg) fun b hb e2 => by
    obtain ⟨cur, h1⟩ := h.block_of hb
    obtain ⟨o, h2, h3⟩ := hr b e2
    rw [h1] at h2
    cases h2
    cases h3
theorem KeepsOthers.of_upx {F : Nat → Prop} {W W' : World} (hu : UpX F W W') (hF : ∀ b, F b → ∃ o : Obj, W.heap[b]? = some o ∧ o.isCells = true) : KeepsOthers W W' :=
  ⟨hu.size, fun k o hk ho => (hu.block k (Array.getElem?_eq_some_iff.1 hk).1 fun f => by
    obtain ⟨o', h1, h2⟩ := hF k f
    rw [hk] at h1
    cases h1
    rw [ho] at h2
    cases h2).trans hk⟩

set_option maxHeartbeats 2000000 in
/-- slices.AppendSeq(nil, seq). -/
theorem appSeq_calls (g : Nat) (lb : Array Value) (eg : ∀ args w, (callFunc g args).run Try.prog w = .ok (.enter g args) w) (n0 : Nat) (zs : List Int) (hz : zs.length ≤ 65536) (hwf : ∀ z ∈ zs, InK .i64 z) (w : World) (hn0 : n0 ≤ w.heap.size)
    (hseq : SeqAt Fence.wide 4 Try.prog g lb (fun k => #[Value.int .i64 (zs.getD k 0)]) (fun W W' => Below n0 W W') zs.length w) :
    Calls Try.prog 77 #[.slice none 0 0, .func (.func g) #[] lb] w fun e w' => ∃ v, e = .returned v ∧ Own w' w.heap.size 3 .i64 v zs ∧ Up w w' := by
  refine (callsIn_wide (n := 5)).1 ?_
  have hu0 : Up w (w.alloc (.cells #[.slice none 0 0] 22)) := (Up.refl w).alloc _
  have hb0 := Blk.new w 22 #[.slice none 0 0]
  have hsz : (w.alloc (.cells #[.slice none 0 0] 22)).heap.size = w.heap.size + 1 := by simp
  have hseq' := hseq.up hu0
  refine callsIn_of_wp_marks Try.func77 rfl trivial ?_ rfl
  simp only [Try.ntmps77, List.size_toArray, List.length_cons, List.length_nil, Nat.reduceAdd, Nat.reduceSub, Array.replicate_succ, Array.replicate_zero, List.push_toArray, List.append_toArray, List.nil_append, List.cons_append]
  gi_wp2
  generalize w.alloc (.cells #[.slice none 0 0] 22) = w1 at *
  have HB := Lib.hid (show w.heap.size ≤ w.heap.size from Nat.le_refl _)
  generalize hBx : w.heap.size = Bx at hb0 hsz hn0 ⊢
  rw [hBx] at HB
  refine wpIn_range_at rfl (by omega) (gf := g) (lb := lb) rfl trivial eg hseq' (fun h k => h.trans k) (fun W l o o' hl h hc _ => (Below.refl n0 W).grown (grownBy_putObj' W l o') (by have := (Array.getElem?_eq_some_iff.1 h).1; omega) (fun k e => by cases e; omega)) (fun _ => rfl)
    (fun k W => ∃ v, Blk W Bx 22 #[v] ∧ Own W Bx 3 .i64 v (zs.take k) ∧ Up w W)
    (fun k W W' row ⟨v, h1, h2, h3⟩ hg hr => ⟨v, h1.grown hg fun r e => (hr r e).2, h2.grown hg fun r e => (hr r e).2, h3.grown hg fun r e => by have := (hr r e).1; omega⟩)
    ⟨_, hb0, by rw [List.take_zero]; exact Own.nil _ _ _ _, hu0⟩
    (fun k => { tmps := #[.slice none 0 0, .func (.func g) #[] lb, .pointer (some ⟨Bx, 0, none⟩), undef, .slice none 0 0, .int .i64 (zs.getD k 0), .func (.func g) #[] lb, .int .i64 (zs.getD k 0), undef, undef, undef, undef, undef], defers := [] }) ?assign ?body ?done
  case assign =>
    intro l k W K hK
    generalize zs.getD k 0 = z at *
    gi_wp2
    exact hK
  case body =>
    rintro l k W hk ⟨v, hbx, hv, hU⟩
    have hcv : W.cell? ⟨Bx, 0, none⟩ = some v := by simpa using hbx.cell 0
    have hsl := hU.size
    have hown : ∀ b, v.ownBlock = some b → b ≠ Bx ∧ Bx ≤ b ∧ ∃ o : Obj, W.heap[b]? = some o ∧ o.isCells = true := fun b hb => by
      obtain ⟨cur, h1⟩ := hv.block_of hb
      refine ⟨fun e => ?_, (hv.lt b hb).1, _, h1, rfl⟩
      subst e
      have h2 := hbx.out
      rw [h1] at h2
      cases h2
    have hzk : zs.take k ++ [zs.getD k 0] = zs.take (k + 1) := by
      rw [List.take_succ_eq_append_getElem hk]
      simp [List.getD_eq_getElem?_getD, hk]
    have hzw : InK .i64 (zs.getD k 0) := by
      rw [List.getD_eq_getElem?_getD, List.getElem?_eq_getElem hk]
      exact hwf _ (List.getElem_mem hk)
    have hlk : (zs.take k).length ≤ 65536 := by rw [List.length_take]; omega
    rw [← hzk]
    clear hzk
    generalize zs.getD k 0 = z at *
    have HW := Lib.hid hwf
    clear hwf
    refine wpIn_block ?_
    refine wpIn_region_plain (by kernel_rfl) fun K hK => ?_
    generalize zs.take k = pre at *
    clear hseq hseq'
    have hpl : (pre ++ [z]).length = pre.length + 1 := by simp
    obtain ⟨Av, cv, rfl, hrv⟩ := hv.rd
    go_wp2_with (refine wpl_push_int2 Bx 3 .i64 8 Try.underlying22 infoInt9 _ pre z rfl hzw (fun _ => rfl) (fun _ => rfl) hv (by omega) (by decide) (by omega) ?_; intro v' w' hv' hu' hn'; have hbx' := hbx.upx hu' (fun e => (hown _ e).1 rfl); have hcx' : w'.cell? ⟨Bx, 0, none⟩ = some _ := hbx'.cell 0; have hfx' := hbx'.frozen 0; obtain ⟨Av', cv', rfl, hrv'⟩ := hv'.rd; rw [hpl] at hv' hn')
    have hne' : ∀ b, (Value.slice Av' (pre.length + 1) cv').ownBlock = some b → b ≠ Bx := fun b hb e => by
      obtain ⟨cur, h1⟩ := hv'.block_of hb
      subst e
      have h2 := hbx'.out
      rw [h1] at h2
      cases h2
    have hx1 := UpX.one w' Bx 0 (.slice Av' (pre.length + 1) cv')
    refine ⟨(KeepsOthers.of_upx hu' fun b hb => (hown b hb).2.2).trans (KeepsOthers.setCell _ _ _), ?_, .slice Av' (pre.length + 1) cv', hbx'.set 0 _, hv'.upx hx1 (fun b hb e => hne' b hb e), (hU.thenx hu' fun i hi e => by have := (hown _ e).2.1; omega).thenx hx1 fun i hi e => by omega⟩
    have hUn : UpX (fun b => n0 ≤ b) W (w'.setCell ⟨Bx, 0, none⟩ (.slice Av' (pre.length + 1) cv')) := (hu'.mono fun b _ e => by have := (hown _ e).2.1; omega).then_ hx1 fun i _ e => by omega
    exact ⟨hUn.os, hUn.tape, hUn.output, hUn.size, fun q hq => hUn.block q (by omega) (by omega)⟩
  case done =>
    rintro D W hD ⟨v, hbx, hv, hU⟩ hK
    rw [List.take_length] at hv
    have hcv : W.cell? ⟨Bx, 0, none⟩ = some v := by simpa using hbx.cell 0
    obtain ⟨Av, cv, rfl, hrv⟩ := hv.rd
    gi_wp2
    refine ⟨by simp, .inl ⟨_, _, rfl, run_takeDeferred hK, ?_⟩⟩
    have hKK : ∀ r, some D = some r → ∃ o : Obj, W.heap[r]? = some o ∧ o.isCells = false := fun r e => by cases e; exact ⟨_, hK, rfl⟩
    exact ⟨_, results_tmp rfl _ _ _, _, rfl, by rw [hBx]; exact hv.grown (grownBy_putObj' W D (.deferred none)) hKK, hU.grown (grownBy_putObj' W D (.deferred none)) (fun r e => by cases e; omega)⟩
end Go.Proofs.Ytmmacpicbonhhaa
