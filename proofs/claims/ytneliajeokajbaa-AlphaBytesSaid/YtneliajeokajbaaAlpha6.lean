/- Layer 14: the walk of Docs. -/
import Derived.Test.YtneliajeokajbaaAlpha5
namespace Go.Proofs.Ytneliajeokajbaa
open Go.RowKit
set_option maxRecDepth 100000

structure DocsPost (w : World) (r : Option (List (List Int))) (en : Ending) (w' : World) : Prop where mk ::
  up : Up w w'
  out : (r = none ∧ en = .returned (.tuple #[.slice none 0 0, .int .i64 3])) ∨ ∃ ds B d, r = some ds ∧ en = .returned (.tuple #[.slice B ds.length d, .int .i64 0]) ∧ RdL w' .u8 B d ds

structure DocsRel2 (w : World) (l : List Int) (o d : Value) (wr : World) : Prop where mk ::
  out : ∃ acc doc m, dstep l [] [] = some (acc, doc) ∧ OwnL wr w.heap.size 76 5 .u8 m o acc ∧ Own wr m 5 .u8 d doc ∧ m ≤ wr.heap.size ∧ w.heap.size ≤ m ∧ acc.length ≤ l.length ∧ doc.length ≤ l.length ∧ Up w wr

set_option maxHeartbeats 2000000 in
theorem alphaDocs_calls (A : Option Addr) (c : Nat) (text : List Int) (w : World) (h1 : Rd w .i64 A c text) (hb : text.length ≤ 65536) :
    Calls Try.prog 15 #[.slice A text.length c] w (DocsPost w (docsOf text)) := by
  generalize hr : docsOf text = r
  have HR := Lib.hid hr
  clear hr
  rcases List.eq_nil_or_concat text with rfl | ⟨t, z, rfl⟩
  · have HR2 : Hid (r = none) := Lib.hid (by rw [← HR.out]; rfl)
    go_enter Try.func15, Try.ntmps15
    go_wp2_with fail
    go_ret2
    exact ⟨Up.refl _, .inl ⟨HR2.out, rfl⟩⟩
  rw [List.concat_eq_append] at h1 HR hb ⊢
  have hlen : (t ++ [z]).length = t.length + 1 := by simp
  rw [hlen] at hb ⊢
  obtain ⟨ad, z', rfl, hcell, HZ, _⟩ := h1.get t.length (by simp)
  have hzz : z' = z := HZ.out.symm.trans (by simp)
  subst hzz
  have HD := Lib.hid (docsOf_snoc t z')
  by_cases hz : z' = 0
  · subst hz
    have HD2 := Lib.hid (HR.out.symm.trans (HD.out.trans (if_pos rfl)))
    clear HD HR hlen
    have ht1 : Rd w .i64 (some ad) c t := by have := h1.take t.length; simpa using this
    generalize hn : t.length = n at *
    have HN := Lib.hid hn
    clear hn
    have hcn : n + 1 ≤ c := by have := h1.le; have := HN.out; simp at *; omega
    have key : (decide (0 < n) = false ∧ Hid (t = [] ∨ t.getD (t.length - 1) 0 = 1)) ∨ ((decide (0 < n) = true ∧ 0 < n ∧ ((n : Int) - 1).toNat = n - 1 ∧ w.cell? (ad.add (n - 1)) = some (.int .i64 1)) ∧ Hid (t = [] ∨ t.getD (t.length - 1) 0 = 1)) ∨
        ∃ y, (decide (0 < n) = true ∧ 0 < n ∧ ((n : Int) - 1).toNat = n - 1 ∧ w.cell? (ad.add (n - 1)) = some (.int .i64 y)) ∧ (y != 1) = true ∧ Hid (r = none) := by
      by_cases h0 : n = 0
      · exact .inl ⟨by simp; omega, Lib.hid (.inl (List.eq_nil_of_length_eq_zero (HN.out.trans h0)))⟩
      · obtain ⟨_, y, e0, hcy, HY, _⟩ := ht1.get (n - 1) (by rw [HN.out]; omega)
        obtain rfl := Option.some.inj e0
        by_cases hy : y = 1
        · subst hy
          exact .inr (.inl ⟨⟨by simp; omega, by omega, by omega, hcy⟩, Lib.hid (.inr (by rw [HN.out, HY.out]))⟩)
        · refine .inr (.inr ⟨y, ⟨by simp; omega, by omega, by omega, hcy⟩, by simpa using hy, Lib.hid ?_⟩)
          rw [HD2.out]
          cases hd : dstep t [] [] with
          | none => rfl
          | some q =>
            obtain ⟨acc, doc⟩ := q
            have h9 := dstep_open t _ hd
            cases doc with
            | nil =>
              rcases h9.1 rfl with h | h
              · rw [h] at HN; have := HN.out; simp at this; omega
              · rw [HN.out, HY.out] at h; exact absurd h hy
            | cons _ _ => rfl
    rcases key with ⟨hg, HL⟩ | ⟨⟨hg, hg2, hg3, hcy⟩, HL⟩ | ⟨y, ⟨hg, hg2, hg3, hcy⟩, hyb, HR2⟩
    rotate_left 2
    · go_enter Try.func15, Try.ntmps15
      go_wp2_with fail
      go_ret2
      exact ⟨Up.refl _, .inl ⟨HR2.out, rfl⟩⟩
    all_goals
      go_enter Try.func15, Try.ntmps15
      go_wp2_with fail
      go_loopw [5, 6, 8, 43] (fun o d _ i wr => ∃ k : Nat, k ≤ n ∧ i = .int .i64 k ∧ DocsRel2 w (t.take k) o d wr) (fun _ _ _ i _ => n - (intOf i).toNat)
      case atStart => exact ⟨0, by omega, rfl, ⟨[], [], w.heap.size, rfl, OwnL.nil _ _ _ _ _ _, own_empty w 5 .u8, by simp, by omega, by simp, by simp, (Up.refl _).alloc _⟩⟩
      case round =>
        obtain ⟨k, hk, rfl, hrel⟩ := hrel
        obtain ⟨acc, doc, m, hds, ho, hd, hm, hwm, hal, hdl, hu⟩ := hrel.out
        have HDS := Lib.hid hds
        clear hds hrel
        have hkl : (t.take k).length ≤ k := List.length_take_le _ _
        by_cases hlt : k < n
        · obtain ⟨_, x, e0, hcx, HX, hxr⟩ := ht1.get k (by rw [HN.out]; exact hlt)
          obtain rfl := Option.some.inj e0
          have hcx' := hu.cell hcx
          have HT := Lib.hid (show t.take (k + 1) = t.take k ++ [x] by rw [take_succ_getD t k 0 (by rw [HN.out]; exact hlt), HX.out])
          have HTL := Lib.hid (show (t.take (k + 1)).length = (t.take k).length + 1 by rw [HT.out]; simp)
          generalize hT : t.take k = T at *
          have hds1 := Lib.hid (dstep_snoc T x [] [])
          rw [HDS.out, Option.bind_some] at hds1
          by_cases hx1 : x = 1
          · subst hx1
            have HDN := Lib.hid (hds1.out.trans (if_pos rfl))
            clear hds1
            go_wp2_with (refine wpl_pushL (t := 22) w.heap.size 76 5 .u8 m Try.underlying22 infoBytes8 (by decide) _ acc m _ doc rfl (fun _ => rfl) (fun _ => rfl) ho hd hm (by omega) hu.size ?_; intro v1 w1 hv1 hu1)
            have hlo := ho.lt
            go_roundw
            case rel =>
              have hU : Up w w1 := hu.thenx hu1 fun i hi e => by have := (hlo i e).1; omega
              have hE : Up w1 (w1.alloc (.cells #[] 5)) := (Up.refl _).alloc _
              refine ⟨k + 1, by omega, by simp, ⟨acc ++ [doc], [], w1.heap.size, by rw [HT.out]; exact HDN.out, (hv1.mono hu1.size).up hE, own_empty w1 5 .u8, hE.size, hU.size, by have := HTL.out; rw [List.length_append, List.length_singleton]; omega, by simp, hU.trans hE⟩⟩
            case measure => simp [intOf]; omega
          · have hxb : (x == 1) = false := by simpa using hx1
            by_cases hx2 : x < 2 ∨ 258 ≤ x
            · have HRN : Hid (r = none) := Lib.hid (by
                rw [HD2.out, ← List.take_append_drop (k + 1) t, HT.out, dstep_none _ _ _ _ (hds1.out.trans ((if_neg hx1).trans (if_pos hx2)))]
                rfl)
              clear hds1
              rcases hx2 with hx2 | hx2
              · go_wp2_with fail
                go_ret2
                exact ⟨hu, .inl ⟨HRN.out, rfl⟩⟩
              · have hx3 : ¬ x < 2 := by omega
                go_wp2_with fail
                go_ret2
                exact ⟨hu, .inl ⟨HRN.out, rfl⟩⟩
            · have HDN := Lib.hid (hds1.out.trans ((if_neg hx1).trans (if_neg hx2)))
              have hx3 : 2 ≤ x := by omega
              have hx4 : x < 258 := by omega
              have hi := InK.of_u8 (x := x - 2) (by omega) (by omega)
              clear hds1 hx2
              go_wp2_with (refine wpl_push_int (t := 76) m 5 .u8 1 Try.underlying76 infoU8 _ doc (x - 2) rfl hi (fun _ => rfl) (fun _ => rfl) hd (by omega) (by decide) hm ?_; intro v1 w1 hv1 hu1)
              have hlo := hd.lt
              go_roundw
              case rel =>
                have hU : Up w w1 := hu.thenx hu1 fun i hi e => by have := (hlo i e).1; omega
                refine ⟨k + 1, by omega, by simp, ⟨acc, doc ++ [x - 2], m, by rw [HT.out]; exact HDN.out, ho.part hd (Nat.le_refl _) (by decide) hu1, hv1, Nat.le_trans hm hu1.size, hwm, by have := HTL.out; omega, by have := HTL.out; rw [List.length_append, List.length_singleton]; omega, hU⟩⟩
              case measure => simp [intOf]; omega
        · have hke : k = n := by omega
          subst hke
          rw [List.take_of_length_le (by rw [HN.out]; exact Nat.le_refl _)] at HDS hal
          have hdn : doc = [] := (dstep_open t _ HDS.out).2 HL.out
          subst hdn
          have HRS : Hid (r = some acc) := Lib.hid (by rw [HD2.out, HDS.out]; rfl)
          obtain ⟨B, d, rfl, hrd⟩ := ho.rd
          go_wp2_with fail
          go_ret2
          exact ⟨hu, .inr ⟨acc, B, d, HRS.out, rfl, hrd⟩⟩
  · have HR2 : Hid (r = none) := Lib.hid (by rw [← HR.out, HD.out, if_neg hz])
    have hzb : (z' != 0) = true := by simpa using hz
    clear hz HD
    go_enter Try.func15, Try.ntmps15
    go_wp2_with fail
    go_ret2
    exact ⟨Up.refl _, .inl ⟨HR2.out, rfl⟩⟩
end Go.Proofs.Ytneliajeokajbaa
