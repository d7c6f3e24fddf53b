/- Layer 14: documents as texts, and the statement's own Docs (for layer 17). -/
import Derived.Test.YtmmacpicbonhhaaIndH
import Derived.Test.YtmmacpicbonhhaaPiM
import Derived.Test.YtmmacpicbonhhaaSufWalk
namespace Go.Proofs.Ytmmacpicbonhhaa
open Go.RowKit
set_option maxRecDepth 100000

theorem infoU8 : (Try.prog.info? 5).map (fun i => (i.zero, i.size, i.bytes)) = some (some (.int .u8 0), 1, 1) := by kernel_rfl
theorem min_of {w : World} {k : IntKind} {A : Option Addr} {c : Nat} {l : List Int} (h : Rd w k A c l) (b : Nat) :
    ∃ m : Nat, (if (b : Int) < (l.length : Int) then (b : Int) else (l.length : Int)) = (m : Int) ∧ (m : Int) ≤ (c : Int) ∧ (m : Int) ≤ (b : Int) ∧ Hid (m = (l.take b).length) ∧ Rd w k A c (l.take b) :=
  ⟨min l.length b, by split <;> omega, by have := h.le; omega, by omega, Lib.hid (by rw [List.length_take, Nat.min_comm]), h.take b⟩
theorem own_empty (w : World) (e : Nat) (k : IntKind) : Own (w.alloc (.cells #[] e)) w.heap.size e k (.slice (some ⟨w.heap.size, 0, none⟩) 0 0) [] := Own.lit w _ _ _ [] (Nat.le_refl _) (by simp) (by simp) 0 rfl _ rfl
def pattern (b : List Int) : List Int := b.map (fun c => 2 + c)
theorem pattern_wf (b : List Int) (h : ∀ x ∈ b, InK .u8 x) : ∀ x ∈ pattern b, InK .i64 x := by
  intro x hx
  obtain ⟨y, hy, rfl⟩ := List.mem_map.1 hx
  have := (h y hy).u8
  exact InK.of_i64 (by omega) (by omega)
def textOf (ds : List (List Int)) : List Int := (ds.map (fun d => pattern d ++ [1])).flatten
theorem textOf_snoc (ds : List (List Int)) (d : List Int) : textOf (ds ++ [d]) = textOf ds ++ (pattern d ++ [1]) := by
  unfold textOf
  rw [List.map_append, List.flatten_append]
  simp

set_option maxHeartbeats 1000000 in
theorem alphaPattern_calls (A : Option Addr) (c : Nat) (b : List Int) (w : World) (h1 : Rd w .u8 A c b) (hb : b.length ≤ 1000000000000) :
    Calls Try.prog 75 #[.slice A b.length c] w (RetOwn w 3 .i64 (pattern b)) := by
  go_enter Try.func75, Try.ntmps75
  go_wp2_with fail
  go_loopw [3, 5, 8] (fun o _ i wr => ∃ k : Nat, k ≤ b.length ∧ i = .int .i64 k ∧ Own wr w.heap.size 3 .i64 o (pattern (b.take k)) ∧ Up w wr) (fun _ _ i _ => b.length - (intOf i).toNat)
  case atStart => exact ⟨0, by omega, rfl, by simpa [pattern] using Own.nil _ _ _ _, Up.refl _⟩
  case round =>
    obtain ⟨k, hk, rfl, ho, hu⟩ := hrel
    by_cases hlt : k < b.length
    · obtain ⟨ad, x, rfl, hcell, HX, hxr⟩ := h1.get k hlt
      have hcell' := hu.cell hcell
      have hx2 := hxr.u8
      have HT := Lib.hid (show pattern (b.take (k + 1)) = pattern (b.take k) ++ [2 + x] by rw [take_succ_getD b k 0 hlt, HX.out]; simp [pattern])
      have HL := Lib.hid (show (pattern (b.take k)).length ≤ b.length by simp [pattern]; omega)
      have hi := InK.of_i64 (x := 2 + x) (by omega) (by omega)
      have hlo := ho.lt
      go_wp2_with (refine wpl_push_int (t := 22) w.heap.size 3 .i64 8 Try.underlying22 infoInt' u3 _ (2 + x) rfl hi (fun _ => rfl) (fun _ => rfl) ho (by have := HL.out; omega) (by decide) hu.size ?_; intro v1 w1 hv1 hu1)
      go_roundw
      case rel => exact ⟨k + 1, by omega, by simp, by rw [HT.out]; exact hv1, hu.thenx hu1 fun i hi e => by have := (hlo i e).1; omega⟩
      case measure => simp [intOf]; omega
    · have hke : k = b.length := by omega
      subst hke
      rw [List.take_length] at ho
      go_wp2_with fail
      go_ret
      exact RetOwn.of ho hu

theorem textOf_take (ds : List (List Int)) (k : Nat) : (textOf (ds.take k)).length ≤ (textOf ds).length := by
  have e : textOf ds = textOf (ds.take k) ++ textOf (ds.drop k) := by
    conv => lhs; rw [← List.take_append_drop k ds]
    unfold textOf
    rw [List.map_append, List.flatten_append]
  rw [e, List.length_append]
  omega

set_option maxHeartbeats 2000000 in
theorem alphaText_calls (A : Option Addr) (c : Nat) (ds : List (List Int)) (w : World) (hl : RdL w .u8 A c ds) (hb : (textOf ds).length ≤ 65535) :
    Calls Try.prog 57 #[.slice A ds.length c] w fun e w' => ∃ v, e = .returned (.tuple #[v, .int .i64 0]) ∧ Own w' w.heap.size 3 .i64 v (textOf ds ++ [0]) ∧ Up w w' := by
  have hlen := hl.len
  have HB := Lib.hid hb
  clear hb
  go_enter Try.func57, Try.ntmps57
  go_wp2_with fail
  go_loopw [4, 6, 12] (fun n _ i wr => ∃ (k m : Nat), k ≤ ds.length ∧ i = .int .i64 k ∧ n = .int .i64 m ∧ Hid (m = 1 + (textOf (ds.take k)).length) ∧ w = wr) (fun _ _ i _ => ds.length - (intOf i).toNat)
  case atStart => exact ⟨0, 1, by omega, rfl, rfl, Lib.hid (by simp [textOf]), rfl⟩
  case round =>
    obtain ⟨k, m, hk, rfl, rfl, HM, rfl⟩ := hrel
    have hml : (m : Int) ≤ 65536 := by have := HM.out; have := HB.out; have := textOf_take ds k; omega
    by_cases hlt : k < ds.length
    · obtain ⟨ad, d, A', c', rfl, hcell, hrd, HL⟩ := hl.get k hlt
      have HN := Lib.hid (show m + d.length + 1 = 1 + (textOf (ds.take (k + 1))).length by
        rw [take_succ_getD ds k [] hlt, textOf_snoc, HL.out, HM.out, List.length_append, List.length_append]
        simp [pattern]
        omega)
      have hle : m + d.length + 1 ≤ 65536 := by have := HN.out; have := HB.out; have := textOf_take ds (k + 1); omega
      have hmin : (if (65537 : Int) < (m : Int) + (d.length : Int) + 1 then (65537 : Int) else (m : Int) + (d.length : Int) + 1) = ((m + d.length + 1 : Nat) : Int) := by
        rw [if_neg (by omega)]; omega
      have hmin2 : min ((m : Int) + (d.length : Int) + 1) 65537 = (m : Int) + (d.length : Int) + 1 := by omega
      go_wp2_with fail
      go_roundw
      case rel => exact ⟨k + 1, m + d.length + 1, by omega, by simp, by simp, HN, trivial⟩
      case measure => simp [intOf]; omega
    · clear HM
      go_wp2_with fail
      go_loopw [7, 9, 27] (fun o _ i wr => ∃ k : Nat, k ≤ ds.length ∧ i = .int .i64 k ∧ Own wr w.heap.size 3 .i64 o (textOf (ds.take k)) ∧ Up w wr) (fun _ _ i _ => ds.length - (intOf i).toNat)
      case atStart => exact ⟨0, by omega, rfl, by simpa [textOf] using Own.nil _ _ _ _, Up.refl _⟩
      case round =>
        obtain ⟨j, hj, rfl, ho, hu⟩ := hrel
        have HTL := Lib.hid (show (textOf (ds.take j)).length ≤ 65535 by have := HB.out; have := textOf_take ds j; omega)
        have hlo := ho.lt
        by_cases hlt2 : j < ds.length
        · obtain ⟨ad, d, A', c', rfl, hcell, hrd, HL⟩ := hl.get j hlt2
          have hcell' := hu.cell hcell
          have HT := Lib.hid (show textOf (ds.take (j + 1)) = textOf (ds.take j) ++ pattern d ++ [1] by rw [take_succ_getD ds j [] hlt2, textOf_snoc, HL.out, List.append_assoc])
          have HTL2 := Lib.hid (show (textOf (ds.take j)).length + (pattern d).length ≤ 65535 by
            have := HB.out
            have h2 := textOf_take ds (j + 1)
            rw [HT.out, List.length_append, List.length_append] at h2
            omega)
          have HDL := Lib.hid (show d.length ≤ 65535 by have := HTL2.out; simp [pattern] at this; omega)
          generalize textOf (ds.take j) = D at *
          go_wp2_with fail
          refine (alphaPattern_calls A' c' d wr (hrd.up hu) (by have := HDL.out; omega)).mono ?_
          rintro e w2 ⟨v2, rfl, hv2, hu2⟩
          obtain ⟨B2, d2, rfl, hr2⟩ := hv2.rd
          have hU2 := hu.trans hu2
          generalize pattern d = pd at *
          go_wp2_with (first
            | (refine wpl_append (t := 22) w.heap.size 3 .i64 8 Try.underlying22 infoInt' u7 D rfl (ho.up hu2) B2 _ d2 pd rfl rfl hr2 (by have := HTL2.out; omega) (by decide) hU2.size ?_
               intro v3 w3 hv3 hu3 _
               have hU3 : Up w w3 := hU2.thenx hu3 fun i hi e => by have := (hlo i e).1; omega
               have hlo3 := hv3.lt)
            | (refine wpl_push_int (t := 22) w.heap.size 3 .i64 8 Try.underlying22 infoInt' v3 (D ++ pd) 1 rfl (InK.of_i64 (by omega) (by omega)) (fun _ => rfl) (fun _ => rfl) hv3 (by have := HTL2.out; rw [List.length_append]; omega) (by decide) hU3.size ?_
               intro v4 w4 hv4 hu4))
          go_roundw
          case rel => exact ⟨j + 1, by omega, by simp, by rw [HT.out]; exact hv4, hU3.thenx hu4 fun i hi e => by have := (hlo3 i e).1; omega⟩
          case measure => simp [intOf]; omega
        · have hke : j = ds.length := by omega
          subst hke
          rw [List.take_length] at ho HTL
          go_wp2_with (refine wpl_push_int (t := 22) w.heap.size 3 .i64 8 Try.underlying22 infoInt' u7 (textOf ds) 0 rfl (InK.of_i64 (by omega) (by omega)) (fun _ => rfl) (fun _ => rfl) ho (by have := HTL.out; omega) (by decide) hu.size ?_
                       intro v4 w4 hv4 hu4)
          go_ret2
          exact ⟨_, rfl, hv4, hu.thenx hu4 fun i hi e => by have := (hlo i e).1; omega⟩
set_option maxHeartbeats 2000000 in
theorem ref14Text_calls (A : Option Addr) (c : Nat) (ds : List (List Int)) (w : World) (hl : RdL w .u8 A c ds) (hb : (textOf ds).length ≤ 65535) :
    Calls Try.prog 36 #[.slice A ds.length c] w (RetOwn w 3 .i64 (textOf ds ++ [0])) := by
  have hlen := hl.len
  have HB := Lib.hid hb
  clear hb
  go_enter Try.func36, Try.ntmps36
  go_wp2_with fail
  go_loopw [3, 4, 5] (fun o i _ wr => ∃ k : Nat, k ≤ ds.length ∧ i = .int .i64 k ∧ Own wr w.heap.size 3 .i64 o (textOf (ds.take k)) ∧ Up w wr) (fun _ i _ _ => ds.length - (intOf i).toNat)
  case atStart => exact ⟨0, by omega, rfl, by simpa [textOf] using Own.nil _ _ _ _, Up.refl _⟩
  case round =>
    obtain ⟨j, hj, rfl, ho, hu⟩ := hrel
    have HTL := Lib.hid (show (textOf (ds.take j)).length ≤ 65535 by have := HB.out; have := textOf_take ds j; omega)
    have hlo := ho.lt
    by_cases hlt2 : j < ds.length
    · obtain ⟨ad, d, A', c', rfl, hcell, hrd, HL⟩ := hl.get j hlt2
      have HT := Lib.hid (show textOf (ds.take (j + 1)) = textOf (ds.take j) ++ pattern d ++ [1] by rw [take_succ_getD ds j [] hlt2, textOf_snoc, HL.out, List.append_assoc])
      have HTL2 := Lib.hid (show (textOf (ds.take j)).length + d.length ≤ 65535 - 1 by
        have := HB.out
        have h2 := textOf_take ds (j + 1)
        rw [HT.out, List.length_append, List.length_append] at h2
        simp [pattern] at h2
        omega)
      have hdl := hrd.len
      generalize textOf (ds.take j) = D at *
      go_wp2_with fail
      go_loopw [3, 5] (fun o i wx => ∃ k : Nat, k ≤ d.length ∧ i = .int .i64 k ∧ Own wx w.heap.size 3 .i64 o (D ++ pattern (d.take k)) ∧ Up w wx) (fun _ i _ => d.length - (intOf i).toNat)
      case atStart => exact ⟨0, by omega, rfl, by simpa [pattern] using ho, hu⟩
      case round =>
        obtain ⟨k, hk, rfl, ho2, hu2⟩ := hrel
        have hcell' := hu2.cell hcell
        have hlo2 := ho2.lt
        by_cases hlt : k < d.length
        · obtain ⟨ad2, x, rfl, hcell2, HX, hxr⟩ := (hrd.up hu2).get k hlt
          have hx2 := hxr.u8
          have HT2 := Lib.hid (show pattern (d.take (k + 1)) = pattern (d.take k) ++ [2 + x] by rw [take_succ_getD d k 0 hlt, HX.out]; simp [pattern])
          have HL2 := Lib.hid (show (pattern (d.take k)).length ≤ d.length by simp [pattern]; omega)
          have hi := InK.of_i64 (x := x + 2) (by omega) (by omega)
          have HC := Lib.hid (show 2 + x = x + 2 by omega)
          go_wp2_with (refine wpl_push_int (t := 22) w.heap.size 3 .i64 8 Try.underlying22 infoInt' u3 _ (x + 2) rfl hi (fun _ => rfl) (fun _ => rfl) ho2 (by have := HL2.out; have := HTL2.out; rw [List.length_append]; omega) (by decide) hu2.size ?_; intro v1 w1 hv1 hu1)
          go_roundw
          case rel =>
            refine ⟨k + 1, by omega, by simp, ?_, hu2.thenx hu1 fun i hi e => by have := (hlo2 i e).1; omega⟩
            rw [HT2.out, HC.out, ← List.append_assoc]
            exact hv1
          case measure => simp [intOf]; omega
        · have hke : k = d.length := by omega
          subst hke
          rw [List.take_length] at ho2
          have HPL := Lib.hid (show (D ++ pattern d).length ≤ 65535 by have := HTL2.out; rw [List.length_append]; simp [pattern]; omega)
          go_wp2_with (refine wpl_push_int (t := 22) w.heap.size 3 .i64 8 Try.underlying22 infoInt' u3 (D ++ pattern d) 1 rfl (InK.of_i64 (by omega) (by omega)) (fun _ => rfl) (fun _ => rfl) ho2 (by have := HPL.out; omega) (by decide) hu2.size ?_; intro v4 w4 hv4 hu4)
          go_roundw
          case rel => exact ⟨j + 1, by omega, by simp, by rw [HT.out]; exact hv4, hu2.thenx hu4 fun i hi e => by have := (hlo2 i e).1; omega⟩
          case measure => simp [intOf]; omega
    · have hke : j = ds.length := by omega
      subst hke
      rw [List.take_length] at ho HTL
      go_wp2_with (refine wpl_push_int (t := 22) w.heap.size 3 .i64 8 Try.underlying22 infoInt' u3 (textOf ds) 0 rfl (InK.of_i64 (by omega) (by omega)) (fun _ => rfl) (fun _ => rfl) ho (by have := HTL.out; omega) (by decide) hu.size ?_
                   intro v4 w4 hv4 hu4)
      go_ret
      exact RetOwn.of hv4 (hu.thenx hu4 fun i hi e => by have := (hlo i e).1; omega)

def clip8 (ls : List (List Int)) : List (List Int) := (ls.take 8).map (·.take 60)
theorem clip8_upto (ls : List (List Int)) (k : Nat) (h6 : k < 8) (hk : k < ls.length) : clip8 (ls.take (k + 1)) = clip8 (ls.take k) ++ [(ls.getD k []).take 60] := by
  unfold clip8
  rw [List.take_take, List.take_take, show min 8 (k + 1) = k + 1 by omega, show min 8 k = k by omega, take_succ_getD ls k [] hk]
  simp

theorem infoBytes8 : (Try.prog.info? 71).map (fun i => (i.zero, i.size, i.bytes)) = some (some (.slice none 0 0), 1, 24) := by kernel_rfl

theorem OwnV.apart {w : World} {base e e' b : Nat} {v : Value} {vs : List Value} {cs : Array Value} {fr : Nat × Nat} (h : OwnV w base e v vs) (hb : w.heap[b]? = some (.cells cs e' fr)) (hne : e ≠ e') : ¬ v.ownBlock = some b := by
  intro hk
  rcases h.row.2 with ⟨rfl, _⟩ | ⟨g, cap, cur, rfl, _, hh, _⟩
  · simp [Value.ownBlock] at hk
  · simp only [Value.ownBlock, Option.some.injEq] at hk
    subst hk
    rw [hh] at hb
    simp only [Option.some.injEq, Obj.cells.injEq] at hb
    exact hne hb.2.1
theorem Own.kind {w : World} {base e : Nat} {k : IntKind} {B : Option Addr} {n d : Nat} {xs : List Int} (h : Own w base e k (.slice B n d) xs) : ∀ ad, B = some ad → ∃ cs fr, w.heap[ad.block]? = some (.cells cs e fr) := by
  intro ad hB
  subst hB
  rcases h.row.2 with ⟨h0, _⟩ | ⟨g, cap, cur, h0, _, hh, _⟩
  · cases h0
  · simp only [Value.slice.injEq, Option.some.injEq] at h0
    obtain ⟨rfl, _⟩ := h0
    exact ⟨_, _, hh⟩

structure DocsRel (w : World) (ls : List (List Int)) (x : Value) (k : Nat) (wr : World) : Prop where mk ::
  out : ∃ vs, OwnV wr w.heap.size 71 x vs ∧ Vals (fun b => ∃ cs fr, wr.heap[b]? = some (Obj.cells cs 5 fr)) wr .u8 vs (clip8 (ls.take k)) ∧ Up w wr

set_option maxHeartbeats 2000000 in
theorem law14Docs_calls (A : Option Addr) (c : Nat) (ls : List (List Int)) (w : World) (hl : RdL w .u8 A c ls) :
    Calls Try.prog 34 #[.slice A ls.length c] w fun e w' => ∃ B d, e = .returned (.slice B (clip8 ls).length d) ∧ RdL w' .u8 B d (clip8 ls) ∧ Up w w' := by
  have hlen := hl.len
  go_enter Try.func34, Try.ntmps34
  go_wp2_with fail
  go_loopw [3, 4] (fun x i wr => ∃ k : Nat, k ≤ ls.length ∧ k ≤ 8 ∧ i = .int .i64 k ∧ DocsRel w ls x k wr) (fun _ i _ => 8 - (intOf i).toNat)
  case atStart => exact ⟨0, by omega, by omega, rfl, ⟨[], OwnV.nil _ _ _, Vals.nil _ _ _, Up.refl _⟩⟩
  case round =>
    obtain ⟨k, hk, hk8, rfl, hrel⟩ := hrel
    by_cases hlt : k < ls.length
    · by_cases h8 : k < 8
      · obtain ⟨vs, hx, hvs, hu⟩ := hrel.out
        obtain ⟨ad, s0, A', c', rfl, hcell, hrd, HL⟩ := (hl.up hu).get k hlt
        have hll := hrd.len
        obtain ⟨m, hm, hmc, hm2, HM, hrdm⟩ := min_of hrd 60
        have hm60 : (min (s0.length : Int) 60).toNat = m := by split at hm <;> omega
        rw [show ((60 : Nat) : Int) = 60 from rfl] at hm2
        clear hm
        have HS := Lib.hid (clip8_upto ls k h8 hlt)
        rw [HL.out] at HS
        generalize hs : s0.take 60 = s at *
        clear hs
        have hms : m = s.length := HM.out
        subst hms
        go_wp2_with fail
        refine wp_region_pick (fun w' => UpX (fun b => w.heap.size ≤ b) wr w') [(true, 0), (true, 2), (true, 3), (true, 4), (true, 5), (true, 6), (true, 7), (true, 8), (true, 9), (true, 10), (true, 11), (true, 12), (false, 1), (false, 13), (false, 14), (false, 15), (true, 16)] (by kernel_rfl) (by kernel_rfl) (by kernel_rfl) (by kernel_rfl) (by kernel_rfl) (UpX.refl _ _).drew ?_
        simp only [pick, List.map_cons, List.map_nil, List.getElem?_cons_succ, List.getElem?_cons_zero, Option.getD_some]
        repeat (refine pi_step rfl (fun K hK => ?_); go_big_quiet_step ((intro _; rfl)); refine wpQuiet_nil (hK _ ?_); clear hK K)
        obtain ⟨ad0, s1, A1, c1, he0, hcell0, _⟩ := hl.get k hlt
        obtain rfl := Option.some.inj he0
        have hne : ¬ w.heap.size ≤ ad.block := by
          have := World.block_lt_of_cell? w _ hcell0
          rw [addr_add_block] at this
          omega
        refine pi_load (ad.add k) (.slice A' s0.length c') (by kernel_rfl) rfl (by kernel_rfl) (fun w' h => h.cell hcell (by rw [addr_add_block]; exact hne)) ?_
        dsimp only [Act.put]
        simp only [List.setIfInBounds_toArray, List.set_cons_zero, List.set_cons_succ]
        repeat (refine pi_step rfl (fun K hK => ?_); go_big_quiet_step ((intro _; rfl)); refine wpQuiet_nil (hK _ ?_); clear hK K)
        refine pi_load (ad.add k) (.slice A' s0.length c') (by kernel_rfl) rfl (by kernel_rfl) (fun w' h => h.cell hcell (by rw [addr_add_block]; exact hne)) ?_
        dsimp only [Act.put]
        simp only [List.setIfInBounds_toArray, List.set_cons_zero, List.set_cons_succ]
        repeat (refine pi_step rfl (fun K hK => ?_); go_big_quiet_step ((intro _; rfl)); refine wpQuiet_nil (hK _ ?_); clear hK K)
        refine pi_do (fun K hK => ?_)
        go_wp2_with fail
        have hxe : UpX (fun b => w.heap.size ≤ b) wr (wr.alloc (.cells #[] 5)).drew := ((UpX.refl _ _).alloc _).drew
        have hue : Up wr (wr.alloc (.cells #[] 5)).drew := ((Up.refl _).alloc _).drew
        refine ⟨hxe, ?_⟩
        refine pi_do (fun K hK => ?_)
        have hoE : Own (wr.alloc (.cells #[] 5)).drew wr.heap.size 5 .u8 (.slice (some ⟨wr.heap.size, 0, none⟩) 0 0) [] := (own_empty wr 5 .u8).up ((Up.refl _).drew)
        go_wp2_with (refine wpl_append (t := 71) wr.heap.size 5 .u8 1 Try.underlying71 infoU8 (.slice (some ⟨wr.heap.size, 0, none⟩) 0 0) [] rfl hoE A' _ c' s rfl rfl (hrdm.up hue) (by simp; omega) (by decide) hue.size ?_; intro v2 w2 hv2 hu2 _)
        have hszu := hu.size
        have hxw2 : UpX (fun b => w.heap.size ≤ b) wr w2 := hxe.trans (hu2.mono fun i hi e => by have e' : wr.heap.size = i := Option.some.inj e; omega)
        have hU2 : Up wr w2 := hue.thenx hu2 fun i hi e => by have e' : wr.heap.size = i := Option.some.inj e; omega
        refine ⟨hxw2, ?_⟩
        rw [List.nil_append] at hv2
        obtain ⟨B2, d2, rfl, hr2⟩ := hv2.rd
        refine pi_do (fun K hK => ?_)
        go_wp2_with fail
        refine ⟨hxw2.trans ((UpX.refl _ _).alloc _), ?_⟩
        refine pi_do (fun K hK => ?_)
        have hx2 := (hx.up hU2).up ((Up.refl w2).alloc (.cells #[.slice B2 s.length d2] 71))
        go_wp2_with (refine wpl_appendV (t := 53) w.heap.size 71 (.slice none 0 0) 24 Try.underlying53 infoBytes8 rfl u3 vs rfl hx2 ⟨w2.heap.size, 0, none⟩ _ _ [.slice B2 s.length d2] rfl rfl ?_ ?_ ?_ (by decide) ?_ ?_)
        · intro j u hj
          cases j with
          | zero =>
            simp only [List.getElem?_cons_zero, Option.some.injEq] at hj
            subst hj
            rw [add_lit0]
            exact (Blk.new w2 _ _).cell 0
          | succ j => simp at hj
        · intro u hu9
          simp only [List.mem_cons, List.not_mem_nil, or_false] at hu9
          subst hu9
          rfl
        · have := hvs.len
          have h9 : (clip8 (ls.take k)).length ≤ 8 := by unfold clip8; simp only [List.length_map]; exact List.length_take_le _ _
          simp only [List.length_cons, List.length_nil]
          omega
        · have := hU2.size
          simp
          omega
        intro v4 w4 hv4 hu4
        have hlo := hx.lt
        have hx4 : UpX (fun b => w.heap.size ≤ b) wr w4 := (hxw2.trans ((UpX.refl _ _).alloc _)).then_ hu4 fun i hi e => (hlo i e).1
        go_wp2_with fail
        refine ⟨hx4, ?_⟩
        obtain ⟨X4, c4, rfl, hX4⟩ := hv4.slice
        dsimp only [Act.put]
        simp only [List.setIfInBounds_toArray, List.set_cons_zero, List.set_cons_succ]
        repeat (refine pi_step rfl (fun K hK => ?_); go_big_quiet_step ((intro _; rfl)); refine wpQuiet_nil (hK _ ?_); clear hK K)
        refine pi_nil ?_
        go_wp2_with fail
        go_roundw
        case rel =>
          refine ⟨k + 1, by omega, by omega, by simp, ⟨_, hv4, ?_, hu.thenx hx4 fun i hi e => by omega⟩⟩
          rw [HS.out]
          have hue2 : Up w2 (w2.alloc (.cells #[.slice B2 s.length d2] 71)) := (Up.refl _).alloc _
          have hUa := hU2.trans hue2
          have hxa := hx.up hUa
          have hkeep : ∀ b, (∃ cs fr, (w2.alloc (.cells #[.slice B2 s.length d2] 71)).heap[b]? = some (Obj.cells cs 5 fr)) → ¬ u3.ownBlock = some b := fun b hb => by
            obtain ⟨cs, fr, hb⟩ := hb
            exact hxa.apart hb (by decide)
          have hup : ∀ b, (∃ cs fr, (w2.alloc (.cells #[.slice B2 s.length d2] 71)).heap[b]? = some (Obj.cells cs 5 fr)) → ∃ cs fr, w4.heap[b]? = some (Obj.cells cs 5 fr) := fun b hb => by
            have hk2 := hkeep b hb
            obtain ⟨cs, fr, hb⟩ := hb
            exact ⟨cs, fr, hu4.heap hb hk2⟩
          have hva := (hvs.up hUa).mono (G := fun b => ∃ cs fr, (w2.alloc (.cells #[.slice B2 s.length d2] 71)).heap[b]? = some (Obj.cells cs 5 fr)) fun b hb => by
            obtain ⟨cs, fr, hb⟩ := hb
            exact ⟨cs, fr, hUa.heap hb⟩
          have hka := (hv2.up hue2).kind
          refine ((hva.upx hu4 hkeep).mono hup).snoc ((hr2.up hue2).upx hu4 fun ad' e h0 => hkeep _ (hka ad' e)) rfl fun ad' e h0 => hup _ (hka ad' e)
        case measure => simp [intOf]; omega
      · obtain ⟨vs, hx, hvs, hu⟩ := hrel.out
        have hd : decide ((k : Int) < 8) = false := by simp; omega
        obtain ⟨X, cx, rfl, hx1⟩ := hx.rdLF (F := fun _ => True) (hvs.mono fun _ _ => trivial) fun _ _ => trivial
        have he : clip8 (ls.take k) = clip8 ls := by
          unfold clip8
          rw [List.take_take]
          congr 2
          omega
        rw [he] at hx1 ⊢
        go_wp2_with fail
        go_ret
        exact ⟨X, cx, rfl, hx1.rd, hu⟩
    · obtain ⟨vs, hx, hvs, hu⟩ := hrel.out
      have hke : k = ls.length := by omega
      subst hke
      obtain ⟨X, cx, rfl, hx1⟩ := hx.rdLF (F := fun _ => True) (hvs.mono fun _ _ => trivial) fun _ _ => trivial
      rw [List.take_length] at hx1 ⊢
      go_wp2_with fail
      go_ret
      exact ⟨X, cx, rfl, hx1.rd, hu⟩
end Go.Proofs.Ytmmacpicbonhhaa
