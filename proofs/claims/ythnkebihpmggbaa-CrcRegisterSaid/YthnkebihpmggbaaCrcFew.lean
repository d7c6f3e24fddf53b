/- The statement's own helpers: few parts, and the chapter's example. -/
import Derived.Test.YthnkebihpmggbaaCrcSum
namespace Go.Proofs.Ythnkebihpmggbaa
open Go.RowKit
set_option maxRecDepth 100000

def clip (ls : List (List Int)) : List (List Int) := (ls.take 12).map (·.take 100)

theorem clip_upto (ls : List (List Int)) (k : Nat) (h12 : k < 12) (hk : k < ls.length) : clip (ls.take (k + 1)) = clip (ls.take k) ++ [(ls.getD k []).take 100] := by
  unfold clip
  rw [List.take_take, List.take_take, show min 12 (k + 1) = k + 1 by omega, show min 12 k = k by omega, take_succ_getD ls k [] hk]
  simp
theorem clip_all (ls : List (List Int)) (k : Nat) (h : k = min ls.length 12) : clip (ls.take k) = clip ls := by
  unfold clip
  rw [List.take_take]
  congr 1
  rcases Nat.le_total ls.length 12 with h1 | h1
  · rw [List.take_of_length_le (by omega), List.take_of_length_le (by omega)]
  · congr 1; omega
theorem clip_flat (ls : List (List Int)) : (clip ls).flatten.length ≤ 1200 := by
  unfold clip
  have h : ∀ (l : List (List Int)), (l.map (·.take 100)).flatten.length ≤ 100 * l.length := by
    intro l
    induction l with
    | nil => simp
    | cons x l ih => simp only [List.map_cons, List.flatten_cons, List.length_append, List.length_take, List.length_cons]; omega
  have := h (ls.take 12)
  have h2 : (ls.take 12).length ≤ 12 := List.length_take_le _ _
  omega
theorem clip_len (ls : List (List Int)) : (clip ls).length ≤ 12 := by
  unfold clip
  simp only [List.length_map]
  exact List.length_take_le _ _

theorem infoBytes : (Try.prog.info? 23).map (fun i => (i.zero, i.size, i.bytes)) = some (some (.slice none 0 0), 1, 24) := by kernel_rfl
theorem infoU8 : (Try.prog.info? 5).map (fun i => (i.zero, i.size, i.bytes)) = some (some (.int .u8 0), 1, 1) := by kernel_rfl

structure FewPost (w : World) (cl : List (List Int)) (e : Ending) (w' : World) : Prop where mk ::
  out : ∃ A c B d, e = .returned (.tuple #[.slice A cl.length c, .slice B cl.flatten.length d]) ∧ RdL w' .u8 A c cl ∧ Rd w' .u8 B d cl.flatten ∧ Up w w'

structure FewRel (w : World) (ls : List (List Int)) (x all : Value) (k : Nat) (wr : World) : Prop where mk ::
  out : ∃ vs, OwnV wr w.heap.size 23 x vs ∧ Vals (fun b => b < w.heap.size) w .u8 vs (clip (ls.take k)) ∧ Own wr w.heap.size 5 .u8 all (clip (ls.take k)).flatten ∧ Up w wr

theorem few_end (w : World) (ls : List (List Int)) (x all : Value) (k : Nat) (wr : World) (h : FewRel w ls x all k wr) (hk : k = min ls.length 12) : FewPost w (clip ls) (.returned (.tuple #[x, all])) wr := by
  obtain ⟨vs, hx, hvs, hall, hu⟩ := h.out
  rw [clip_all ls k hk] at hvs hall
  obtain ⟨A, c, rfl, h1⟩ := hx.rdLF (F := fun _ => True) ((hvs.up hu).mono fun _ _ => trivial) fun _ _ => trivial
  obtain ⟨B, d, rfl, h2⟩ := hall.rd
  exact ⟨A, c, B, d, rfl, h1.rd, h2, hu⟩

set_option maxHeartbeats 1000000 in
theorem few_calls (A : Option Addr) (c : Nat) (ls : List (List Int)) (w : World) (hl : RdL w .u8 A c ls) :
    Calls Try.prog 11 #[.slice A ls.length c] w (FewPost w (clip ls)) := by
  have hlen := hl.len
  go_enter Try.func11, Try.ntmps11
  go_wp2
  go_loopw [4, 5, 6, 7] (fun x all i _ wr => ∃ k : Nat, k ≤ ls.length ∧ k ≤ 12 ∧ i = .int .i64 k ∧ FewRel w ls x all k wr) (fun _ _ i _ _ => 12 - (intOf i).toNat)
  case atStart => exact ⟨0, by omega, by omega, rfl, ⟨[], OwnV.nil _ _ _, Vals.nil _ _ _, Own.nil _ _ _ _, Up.refl _⟩⟩
  case round =>
    obtain ⟨k, hk, hk12, rfl, hrel⟩ := hrel
    by_cases hlt : k < ls.length
    · by_cases h12 : k < 12
      · obtain ⟨ad, l, A', c', rfl, hcell, hrd, HL⟩ := hl.get k hlt
        obtain ⟨vs, hx, hvs, hall, hu⟩ := hrel.out
        have hll := hrd.len
        have hcell' := hu.cell hcell
        obtain ⟨m, hm, hmc, HM⟩ : ∃ m : Nat, (if (100 : Int) < (l.length : Int) then (100 : Int) else (l.length : Int)) = (m : Int) ∧ (m : Int) ≤ (c' : Int) ∧ Hid (m = min l.length 100) :=
          ⟨min l.length 100, by split <;> omega, by have := hrd.le; omega, Lib.hid rfl⟩
        have HS := Lib.hid (clip_upto ls k h12 hlt)
        have hvl := hvs.len
        have hcl := clip_len (ls.take k)
        have hfl := clip_flat (ls.take k)
        have HM0 := Lib.hid (show m = (l.take 100).length by rw [List.length_take, HM.out, Nat.min_comm])
        have HLT := Lib.hid (List.length_take_le 100 l)
        have hrdm : Rd w .u8 A' c' (l.take 100) := hrd.take 100
        go_wp2
        go_quiet (fail)
        go_wp2_with (first
          | (refine wpl_push (t := 22) w.heap.size 23 _ 24 Try.underlying22 infoBytes rfl u4 vs (.slice A' m c') rfl rfl (fun _ => rfl) (fun _ => rfl) (hx.up ((Qt.refl _).drewN nq).up) (by omega) (by decide) hu.size ?_
             intro x1 w1 hx1 hu1
             have hU1 : Up w w1 := (hu.drewN nq).thenx hu1 (fun i hi e => by have := (hx.lt i e).1; omega))
          | (refine wpl_append (t := 23) w.heap.size 5 .u8 1 Try.underlying23 infoU8 u5 _ rfl (hall.upx ((Up.refl wr).drewN nq |>.x _ |>.trans hu1) (rows_ne hall.row hx.row (by decide))) A' _ c' (l.take 100) rfl HM0.out (hrdm.up hU1) (by have := HLT.out; omega) (by decide) hU1.size ?_
             intro a1 w2 ha1 hu2 _))
        go_roundw
        case rel =>
          have hU2 : Up w w2 := hU1.thenx hu2 (fun i hi e => by have := (hall.lt i e).1; omega)
          refine ⟨k + 1, by omega, by omega, by go_num, ⟨vs ++ [.slice A' m c'], ?_, ?_, ?_, hU2⟩⟩
          · exact hx1.upx hu2 (fun b hb hb2 => rows_ne hx1.row (hall.upx ((Up.refl wr).drewN nq |>.x _ |>.trans hu1) (rows_ne hall.row hx.row (by decide))).row (by decide) b hb hb2)
          · rw [HS.out, HL.out]
            exact hvs.snoc hrdm HM0.out hrdm.lt
          · rw [HS.out, HL.out]
            simpa using ha1
        case measure => simp [intOf]; omega
      · have hd : decide ((k : Int) < 12) = false := by simp; omega
        go_wp2
        go_ret2
        exact few_end w ls _ _ k _ hrel (by omega)
    · go_wp2
      go_ret2
      exact few_end w ls _ _ k _ hrel (by omega)
end Go.Proofs.Ythnkebihpmggbaa
