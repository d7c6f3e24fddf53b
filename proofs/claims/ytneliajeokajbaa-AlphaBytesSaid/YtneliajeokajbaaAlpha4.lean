/- Layer 14: the statement's own Docs. -/
import Derived.Test.YtneliajeokajbaaAlpha3
namespace Go.Proofs.Ytneliajeokajbaa
open Go.RowKit
set_option maxRecDepth 100000

def clip8 (ls : List (List Int)) : List (List Int) := (ls.take 8).map (·.take 60)
theorem clip8_upto (ls : List (List Int)) (k : Nat) (h6 : k < 8) (hk : k < ls.length) : clip8 (ls.take (k + 1)) = clip8 (ls.take k) ++ [(ls.getD k []).take 60] := by
  unfold clip8
  rw [List.take_take, List.take_take, show min 8 (k + 1) = k + 1 by omega, show min 8 k = k by omega, take_succ_getD ls k [] hk]
  simp

theorem infoBytes8 : (Try.prog.info? 76).map (fun i => (i.zero, i.size, i.bytes)) = some (some (.slice none 0 0), 1, 24) := by kernel_rfl

theorem OwnV.apart {w : World} {base e e' b : Nat} {v : Value} {vs : List Value} {cs : Array Value} {fr : Nat × Nat} (h : OwnV w base e v vs) (hb : w.heap[b]? = some (.cells cs e' fr)) (hne : e ≠ e') : ¬ v.ownBlock = some b := by
  intro hk
  rcases h.row.2 with ⟨rfl, _⟩ | ⟨g, cap, cur, rfl, _, hh, _⟩
  · simp [Value.ownBlock] at hk
  · simp only [Value.ownBlock, Option.some.injEq] at hk
    subst hk
    rw [hh] at hb
    simp only [Option.some.injEq, Obj.cells.injEq] at hb
    exact hne hb.2.1
theorem Own.kind {w : World} {base e : Nat} {k : IntKind} {B : Option Addr} {n d : Nat} {xs : List Int} (h : Own w base e k (.slice B n d) xs) : ∀ ad, B = some ad → ∃ cs fr, w.heap[ad.block]? = some (.cells cs e fr) := by
  intro ad hB
  subst hB
  rcases h.row.2 with ⟨h0, _⟩ | ⟨g, cap, cur, h0, _, hh, _⟩
  · cases h0
  · simp only [Value.slice.injEq, Option.some.injEq] at h0
    obtain ⟨rfl, _⟩ := h0
    exact ⟨_, _, hh⟩

structure DocsRel (w : World) (ls : List (List Int)) (x : Value) (k : Nat) (wr : World) : Prop where mk ::
  out : ∃ vs, OwnV wr w.heap.size 76 x vs ∧ Vals (fun b => ∃ cs fr, wr.heap[b]? = some (Obj.cells cs 5 fr)) wr .u8 vs (clip8 (ls.take k)) ∧ Up w wr

set_option maxHeartbeats 2000000 in
theorem law14Docs_calls (A : Option Addr) (c : Nat) (ls : List (List Int)) (w : World) (hl : RdL w .u8 A c ls) :
    Calls Try.prog 13 #[.slice A ls.length c] w fun e w' => ∃ B d, e = .returned (.slice B (clip8 ls).length d) ∧ RdL w' .u8 B d (clip8 ls) ∧ Up w w' := by
  have hlen := hl.len
  go_enter Try.func13, Try.ntmps13
  go_wp2_with fail
  go_loopw [3, 4] (fun x i wr => ∃ k : Nat, k ≤ ls.length ∧ k ≤ 8 ∧ i = .int .i64 k ∧ DocsRel w ls x k wr) (fun _ i _ => 8 - (intOf i).toNat)
  case atStart => exact ⟨0, by omega, by omega, rfl, ⟨[], OwnV.nil _ _ _, Vals.nil _ _ _, Up.refl _⟩⟩
  case round =>
    obtain ⟨k, hk, hk8, rfl, hrel⟩ := hrel
    by_cases hlt : k < ls.length
    · by_cases h8 : k < 8
      · obtain ⟨vs, hx, hvs, hu⟩ := hrel.out
        obtain ⟨ad, s0, A', c', rfl, hcell, hrd, HL⟩ := (hl.up hu).get k hlt
        have hll := hrd.len
        obtain ⟨m, hm, hmc, hm2, HM, hrdm⟩ := min_of hrd 60
        rw [show ((60 : Nat) : Int) = 60 from rfl] at hm hm2
        have HS := Lib.hid (clip8_upto ls k h8 hlt)
        rw [HL.out] at HS
        generalize hs : s0.take 60 = s at *
        clear hs
        have hms : m = s.length := HM.out
        subst hms
        go_wp2_with fail
        refine wp_region_pick (fun w' => UpX (fun b => w.heap.size ≤ b) wr w') [(true, 0), (true, 2), (true, 3), (true, 4), (true, 5), (true, 6), (true, 7), (true, 8), (true, 9), (true, 10), (true, 11), (true, 12), (false, 1), (false, 13), (false, 14), (false, 15), (true, 16)] (by kernel_rfl) (by kernel_rfl) (by kernel_rfl) (by kernel_rfl) (by kernel_rfl) (UpX.refl _ _).drew ?_
        simp only [pick, List.map_cons, List.map_nil, List.getElem?_cons_succ, List.getElem?_cons_zero, Option.getD_some]
        repeat (refine pi_step rfl (fun K hK => ?_); go_big_quiet_step ((intro _; rfl)); refine wpQuiet_nil (hK _ ?_); clear hK K)
        obtain ⟨ad0, s1, A1, c1, he0, hcell0, _⟩ := hl.get k hlt
        obtain rfl := Option.some.inj he0
        have hne : ¬ w.heap.size ≤ ad.block := by
          have := World.block_lt_of_cell? w _ hcell0
          rw [addr_add_block] at this
          omega
        refine pi_load (ad.add k) (.slice A' s0.length c') (by kernel_rfl) rfl (by kernel_rfl) (fun w' h => h.cell hcell (by rw [addr_add_block]; exact hne)) ?_
        dsimp only [Act.put]
        simp only [List.setIfInBounds_toArray, List.set_cons_zero, List.set_cons_succ]
        repeat (refine pi_step rfl (fun K hK => ?_); go_big_quiet_step ((intro _; rfl)); refine wpQuiet_nil (hK _ ?_); clear hK K)
        refine pi_load (ad.add k) (.slice A' s0.length c') (by kernel_rfl) rfl (by kernel_rfl) (fun w' h => h.cell hcell (by rw [addr_add_block]; exact hne)) ?_
        dsimp only [Act.put]
        simp only [List.setIfInBounds_toArray, List.set_cons_zero, List.set_cons_succ]
        repeat (refine pi_step rfl (fun K hK => ?_); go_big_quiet_step ((intro _; rfl)); refine wpQuiet_nil (hK _ ?_); clear hK K)
        refine pi_do (fun K hK => ?_)
        go_wp2_with fail
        have hxe : UpX (fun b => w.heap.size ≤ b) wr (wr.alloc (.cells #[] 5)).drew := ((UpX.refl _ _).alloc _).drew
        have hue : Up wr (wr.alloc (.cells #[] 5)).drew := ((Up.refl _).alloc _).drew
        refine ⟨hxe, ?_⟩
        refine pi_do (fun K hK => ?_)
        have hoE : Own (wr.alloc (.cells #[] 5)).drew wr.heap.size 5 .u8 (.slice (some ⟨wr.heap.size, 0, none⟩) 0 0) [] := (own_empty wr 5 .u8).up ((Up.refl _).drew)
        go_wp2_with (refine wpl_append (t := 76) wr.heap.size 5 .u8 1 Try.underlying76 infoU8 (.slice (some ⟨wr.heap.size, 0, none⟩) 0 0) [] rfl hoE A' _ c' s rfl rfl (hrdm.up hue) (by simp; omega) (by decide) hue.size ?_; intro v2 w2 hv2 hu2 _)
        have hszu := hu.size
        have hxw2 : UpX (fun b => w.heap.size ≤ b) wr w2 := hxe.trans (hu2.mono fun i hi e => by have e' : wr.heap.size = i := Option.some.inj e; omega)
        have hU2 : Up wr w2 := hue.thenx hu2 fun i hi e => by have e' : wr.heap.size = i := Option.some.inj e; omega
        refine ⟨hxw2, ?_⟩
        rw [List.nil_append] at hv2
        obtain ⟨B2, d2, rfl, hr2⟩ := hv2.rd
        refine pi_do (fun K hK => ?_)
        go_wp2_with fail
        refine ⟨hxw2.trans ((UpX.refl _ _).alloc _), ?_⟩
        refine pi_do (fun K hK => ?_)
        have hx2 := (hx.up hU2).up ((Up.refl w2).alloc (.cells #[.slice B2 s.length d2] 76))
        go_wp2_with (refine wpl_appendV (t := 22) w.heap.size 76 (.slice none 0 0) 24 Try.underlying22 infoBytes8 rfl u3 vs rfl hx2 ⟨w2.heap.size, 0, none⟩ _ _ [.slice B2 s.length d2] rfl rfl ?_ ?_ ?_ (by decide) ?_ ?_)
        · intro j u hj
          cases j with
          | zero =>
            simp only [List.getElem?_cons_zero, Option.some.injEq] at hj
            subst hj
            rw [add_lit0]
            exact (Blk.new w2 _ _).cell 0
          | succ j => simp at hj
        · intro u hu9
          simp only [List.mem_cons, List.not_mem_nil, or_false] at hu9
          subst hu9
          rfl
        · have := hvs.len
          have h9 : (clip8 (ls.take k)).length ≤ 8 := by unfold clip8; simp only [List.length_map]; exact List.length_take_le _ _
          simp only [List.length_cons, List.length_nil]
          omega
        · have := hU2.size
          simp
          omega
        intro v4 w4 hv4 hu4
        have hlo := hx.lt
        have hx4 : UpX (fun b => w.heap.size ≤ b) wr w4 := (hxw2.trans ((UpX.refl _ _).alloc _)).then_ hu4 fun i hi e => (hlo i e).1
        go_wp2_with fail
        refine ⟨hx4, ?_⟩
        obtain ⟨X4, c4, rfl, hX4⟩ := hv4.slice
        dsimp only [Act.put]
        simp only [List.setIfInBounds_toArray, List.set_cons_zero, List.set_cons_succ]
        repeat (refine pi_step rfl (fun K hK => ?_); go_big_quiet_step ((intro _; rfl)); refine wpQuiet_nil (hK _ ?_); clear hK K)
        refine pi_nil ?_
        go_wp2_with fail
        go_roundw
        case rel =>
          refine ⟨k + 1, by omega, by omega, by simp, ⟨_, hv4, ?_, hu.thenx hx4 fun i hi e => by omega⟩⟩
          rw [HS.out]
          have hue2 : Up w2 (w2.alloc (.cells #[.slice B2 s.length d2] 76)) := (Up.refl _).alloc _
          have hUa := hU2.trans hue2
          have hxa := hx.up hUa
          have hkeep : ∀ b, (∃ cs fr, (w2.alloc (.cells #[.slice B2 s.length d2] 76)).heap[b]? = some (Obj.cells cs 5 fr)) → ¬ u3.ownBlock = some b := fun b hb => by
            obtain ⟨cs, fr, hb⟩ := hb
            exact hxa.apart hb (by decide)
          have hup : ∀ b, (∃ cs fr, (w2.alloc (.cells #[.slice B2 s.length d2] 76)).heap[b]? = some (Obj.cells cs 5 fr)) → ∃ cs fr, w4.heap[b]? = some (Obj.cells cs 5 fr) := fun b hb => by
            have hk2 := hkeep b hb
            obtain ⟨cs, fr, hb⟩ := hb
            exact ⟨cs, fr, hu4.heap hb hk2⟩
          have hva := (hvs.up hUa).mono (G := fun b => ∃ cs fr, (w2.alloc (.cells #[.slice B2 s.length d2] 76)).heap[b]? = some (Obj.cells cs 5 fr)) fun b hb => by
            obtain ⟨cs, fr, hb⟩ := hb
            exact ⟨cs, fr, hUa.heap hb⟩
          have hka := (hv2.up hue2).kind
          refine ((hva.upx hu4 hkeep).mono hup).snoc ((hr2.up hue2).upx hu4 fun ad' e h0 => hkeep _ (hka ad' e)) rfl fun ad' e h0 => hup _ (hka ad' e)
        case measure => simp [intOf]; omega
      · obtain ⟨vs, hx, hvs, hu⟩ := hrel.out
        have hd : decide ((k : Int) < 8) = false := by simp; omega
        obtain ⟨X, cx, rfl, hx1⟩ := hx.rdLF (F := fun _ => True) (hvs.mono fun _ _ => trivial) fun _ _ => trivial
        have he : clip8 (ls.take k) = clip8 ls := by
          unfold clip8
          rw [List.take_take]
          congr 2
          omega
        rw [he] at hx1 ⊢
        go_wp2_with fail
        go_ret
        exact ⟨X, cx, rfl, hx1.rd, hu⟩
    · obtain ⟨vs, hx, hvs, hu⟩ := hrel.out
      have hke : k = ls.length := by omega
      subst hke
      obtain ⟨X, cx, rfl, hx1⟩ := hx.rdLF (F := fun _ => True) (hvs.mono fun _ _ => trivial) fun _ _ => trivial
      rw [List.take_length] at hx1 ⊢
      go_wp2_with fail
      go_ret
      exact ⟨X, cx, rfl, hx1.rd, hu⟩
end Go.Proofs.Ytneliajeokajbaa
