/- Layer 3: Keeps; the calls of a law as they lie in memory. -/
import Derived.Test.YtehdigkjbobndaaDevLd
import Derived.Test.YtehdigkjbobndaaOwnS
namespace Go.Proofs.Ytehdigkjbobndaa
open Go.RowKit
set_option maxRecDepth 100000

def keepCells (ks : List KeepS) : List Value := ks.flatMap fun k => [.int .i64 k.page, .int .i64 k.n, .int .i64 k.part]
theorem keepCells_len (ks : List KeepS) : (keepCells ks).length = ks.length * 3 := by
  unfold keepCells
  induction ks with
  | nil => rfl
  | cons k ks ih => rw [List.flatMap_cons, List.length_append, ih]; simp; omega
theorem keepCells_get : ∀ (ks : List KeepS) (i : Nat) (x : KeepS), ks[i]? = some x → (keepCells ks)[i * 3]? = some (.int .i64 x.page) ∧ (keepCells ks)[i * 3 + 1]? = some (.int .i64 x.n) ∧ (keepCells ks)[i * 3 + 2]? = some (.int .i64 x.part)
  | [], i, x, h => by simp at h
  | k :: ks, 0, x, h => by
    simp only [List.getElem?_cons_zero, Option.some.injEq] at h
    subst h
    exact ⟨rfl, rfl, rfl⟩
  | k :: ks, i + 1, x, h => by
    have ih := keepCells_get ks i x (by simpa using h)
    have e : keepCells (k :: ks) = [.int .i64 k.page, .int .i64 k.n, .int .i64 k.part] ++ keepCells ks := rfl
    rw [e, show (i + 1) * 3 = 3 + i * 3 by omega]
    have sh : ∀ j, (([.int .i64 k.page, .int .i64 k.n, .int .i64 k.part] : List Value) ++ keepCells ks)[3 + j]? = (keepCells ks)[j]? := fun j => by
      rw [List.getElem?_append_right (by simp)]
      simp
    rw [show 3 + i * 3 + 1 = 3 + (i * 3 + 1) by omega, show 3 + i * 3 + 2 = 3 + (i * 3 + 2) by omega, sh, sh, sh]
    exact ih
theorem OwnS.keeps {w : World} {base : Nat} {v : Value} {ks : List KeepS} (h : OwnS w base 104 3 v ks.length (keepCells ks)) (hk : ∀ x ∈ ks, KeepIn x) :
    ∃ B c, v = .slice B ks.length c ∧ ks.length ≤ c ∧ KeepsR w B ks ∧ ∀ ad, B = some ad → base ≤ ad.block := by
  obtain ⟨A, c, rfl, h1, _, h2, h3⟩ := h.slice
  refine ⟨A, c, rfl, h1, ⟨fun i x hx => ?_, hk⟩, fun ad e => ?_⟩
  · cases A with
    | none => have := h2 rfl; have := (List.getElem?_eq_some_iff.1 hx).1; omega
    | some ad =>
      obtain ⟨b, rfl, _, _, hc⟩ := h3 ad rfl
      obtain ⟨g0, g1, g2⟩ := keepCells_get ks i x hx
      exact ⟨b, 0, rfl, by rw [Nat.zero_add]; exact hc _ _ g0, by rw [Nat.zero_add]; exact hc _ _ g1, by rw [Nat.zero_add]; exact hc _ _ g2⟩
  · obtain ⟨b, rfl, h4, _⟩ := h3 ad e
    exact h4
/-- What Keeps answers. -/
structure KeepsPost (w : World) (A : Option Addr) (c : Nat) (ks : List KeepS) (en : Ending) (w' : World) : Prop where mk ::
  out : ∃ B d, en = .returned (.tuple #[.slice B ks.length d, .slice A ks.length c]) ∧ ks.length ≤ d ∧ KeepsR w' B ks ∧ (∀ ad, B = some ad → w.heap.size ≤ ad.block) ∧ Up w w'
set_option maxHeartbeats 2000000 in
theorem law03Keeps_calls (A : Option Addr) (c : Nat) (ks : List KeepS) (w : World) (h : KeepsR w A ks) (hc : ks.length ≤ c) (hm : ks.length ≤ 9223372036854775807) :
    Calls Try.prog 22 #[.slice A ks.length c] w (KeepsPost w A c (ks.take 30)) := by
  have hx : KeepsR w A (ks.take 30) := ⟨fun i x hx => h.at_ i x (by
    rw [List.getElem?_take] at hx
    split at hx
    · exact hx
    · cases hx), fun x hx => h.wf x (List.mem_of_mem_take hx)⟩
  obtain ⟨n, hn⟩ : ∃ n, (ks.take 30).length = n := ⟨_, rfl⟩
  have hn0 : n = min ks.length 30 := by rw [← hn, List.length_take]; omega
  have HX := Lib.hid hx
  have HN := Lib.hid hn
  generalize ks.take 30 = x at *
  clear h hx hn
  go_enter Try.func22, Try.ntmps22
  go_upto_region 1 with fail
  go_cut [0] (fun v wx => v = .slice A n c ∧ w = wx)
  case first =>
    by_cases h9 : (30 : Int) < (ks.length : Int)
    · have HE := Lib.hid (show 30 = n by omega)
      clear hn0
      go_wp2_with fail
      go_meet
      exact ⟨by rw [HE.out], rfl⟩
    · have HE := Lib.hid (show ks.length = n by omega)
      clear hn0
      go_wp2_with fail
      go_meet
      exact ⟨by rw [HE.out], rfl⟩
  case rest =>
    obtain ⟨rfl, rfl⟩ := hcut
    have h30 : n ≤ 30 := by omega
    have hnc : n ≤ c := by omega
    clear hn0 hc hm
    go_wp2_with fail
    go_loopw [4, 5] (fun v i wr => ∃ k : Nat, k ≤ n ∧ i = .int .i64 k ∧ OwnS wr w.heap.size 104 3 v k (keepCells (x.take k)) ∧ Up w wr) (fun _ i _ => n - (intOf i).toNat)
    case atStart => exact ⟨0, Nat.zero_le _, rfl, by simpa [keepCells] using OwnS.nil w w.heap.size 104 3, Up.refl _⟩
    case round =>
      obtain ⟨k, hk, rfl, ho, hu⟩ := hrel
      by_cases hlt : k < n
      · obtain ⟨z, hz⟩ : ∃ z, x[k]? = some z := ⟨_, List.getElem?_eq_getElem (by rw [HN.out]; exact hlt)⟩
        obtain ⟨bz, oz, rfl, q0, q1, q2⟩ := HX.out.at_ k z hz
        have hbz := World.block_lt_of_cell? w _ q0
        replace q0 := hu.cell q0
        replace q1 := hu.cell q1
        replace q2 := hu.cell q2
        obtain ⟨v, rfl⟩ : ∃ v, v = u4 := ⟨_, rfl⟩
        have hvb : ∀ b, v.ownBlock = some b → b ≠ bz := fun b hb e => by have := (ho.lt b hb).1; simp at hbz; omega
        have HT := Lib.hid (show keepCells (x.take (k + 1)) = keepCells (x.take k) ++ [.int .i64 z.page, .int .i64 z.n, .int .i64 z.part] by
          rw [List.take_add_one, hz]
          simp [keepCells])
        clear hz
        go_wp2_with fail
        refine wp_region_tree (fun w9 => UpX (fun b => v.ownBlock = some b) wr w9) (.quiet 0 (.quiet 1 (.quiet 2 (.quiet 3 (.quiet 4 (.quiet 5 (.quiet 6 (.quiet 7 (.quiet 8 (.quiet 9 (.quiet 10 (.quiet 11 (.quiet 12 (.quiet 13 (.quiet 14 (.quiet 15 (.quiet 16 (.alt 17 (.alt 18 (.quiet 19 (.nil)) (.stop)) (.stop))))))))))))))))))) (by kernel_rfl) (by kernel_rfl) rfl (by kernel_rfl) (by kernel_rfl) ((UpX.refl _ wr).drew) ?_
        simp only [pickT, List.getElem?_cons_succ, List.getElem?_cons_zero, Option.getD_some]
        repeat (refine tree_step rfl (fun K hK => ?_); go_big_quiet_step ((intro _; rfl)); refine wpQuiet_nil (hK _ ?_); clear hK K)
        refine tree_load ⟨bz, oz + k * 3, none⟩ (.int .i64 z.page) (by kernel_rfl) rfl (by kernel_rfl) (fun w' h => h.cell q0 (fun e => hvb _ e rfl)) ?_
        dsimp only [Act.put]
        simp only [List.setIfInBounds_toArray, List.set_cons_zero, List.set_cons_succ]
        repeat (refine tree_step rfl (fun K hK => ?_); go_big_quiet_step ((intro _; rfl)); refine wpQuiet_nil (hK _ ?_); clear hK K)
        refine tree_load ⟨bz, oz + k * 3 + 1, none⟩ (.int .i64 z.n) (by kernel_rfl) rfl (by kernel_rfl) (fun w' h => h.cell q1 (fun e => hvb _ e rfl)) ?_
        dsimp only [Act.put]
        simp only [List.setIfInBounds_toArray, List.set_cons_zero, List.set_cons_succ]
        repeat (refine tree_step rfl (fun K hK => ?_); go_big_quiet_step ((intro _; rfl)); refine wpQuiet_nil (hK _ ?_); clear hK K)
        refine tree_load ⟨bz, oz + k * 3 + 2, none⟩ (.int .i64 z.part) (by kernel_rfl) rfl (by kernel_rfl) (fun w' h => h.cell q2 (fun e => hvb _ e rfl)) ?_
        dsimp only [Act.put]
        simp only [List.setIfInBounds_toArray, List.set_cons_zero, List.set_cons_succ]
        repeat (refine tree_step rfl (fun K hK => ?_); go_big_quiet_step ((intro _; rfl)); refine wpQuiet_nil (hK _ ?_); clear hK K)
        have hud : Up wr wr.drew := (Up.refl wr).drew
        refine tree_do (fun K hK => ?_)
        go_wp2_with fail
        have hUA : Up wr (wr.alloc (.cells #[Value.int .i64 z.page, .int .i64 z.n, .int .i64 z.part] 104)).drew := ((Up.refl _).alloc _).drew
        have hB := (Blk.new wr 104 #[Value.int .i64 z.page, .int .i64 z.n, .int .i64 z.part]).drew
        refine ⟨hUA.x _, ?_⟩
        have hsa : (wr.alloc (.cells #[Value.int .i64 z.page, .int .i64 z.n, .int .i64 z.part] 104)).drew.heap.size = wr.heap.size + 1 := by simp
        have hcA : ∀ j u, ([.int .i64 z.page, .int .i64 z.n, .int .i64 z.part] : List Value)[j]? = some u → (wr.alloc (.cells #[Value.int .i64 z.page, .int .i64 z.n, .int .i64 z.part] 104)).drew.cell? ((⟨wr.heap.size, 0, none⟩ : Addr).add j) = some u := fun j u hu => by
          rw [add_lit0, hB.cell j]
          simpa using hu
        have hoA := ho.up hUA
        have hszw := hu.size
        generalize (wr.alloc (.cells #[Value.int .i64 z.page, .int .i64 z.n, .int .i64 z.part] 104)).drew = wA at *
        clear hB
        repeat (refine tree_step rfl (fun K hK => ?_); go_big_quiet_step ((intro _; rfl)); refine wpQuiet_nil (hK _ ?_); clear hK K)
        refine tree_do (fun K hK => ?_)
        refine wpl_appendS w.heap.size 104 (.agg #[.int .i64 0, .int .i64 0, .int .i64 0]) 3 24 Try.underlying45 (by kernel_rfl) rfl (by decide) v k (keepCells (x.take k)) rfl hoA ⟨wr.heap.size, 0, none⟩ 1 1 [.int .i64 z.page, .int .i64 z.n, .int .i64 z.part] rfl rfl hcA (by intro u hu; simp only [List.mem_cons, List.not_mem_nil, or_false] at hu; rcases hu with rfl | rfl | rfl <;> rfl) (by omega) (by decide) (by omega) ?_
        intro v9 w9 hv9 hx9 hn9
        go_wp2_with fail
        refine ⟨(hUA.x _).trans hx9, ?_⟩
        dsimp only [Act.put]
        simp only [List.setIfInBounds_toArray, List.set_cons_zero, List.set_cons_succ]
        repeat (refine tree_step rfl (fun K hK => ?_); go_big_quiet_step ((intro _; rfl)); refine wpQuiet_nil (hK _ ?_); clear hK K)
        refine tree_nil ?_
        rw [← HT.out] at hv9
        have HV := Lib.hid hv9
        have HUU := Lib.hid (hu.thenx ((hUA.x _).trans hx9) fun i hi e => by have := (ho.lt i e).1; omega)
        clear hv9 hx9 hn9 hoA hcA hUA hu ho hvb
        go_wp2_with fail
        go_roundw
        case rel => exact ⟨k + 1, by omega, by simp, HV.out, HUU.out⟩
        case measure => simp [intOf]; omega
      · have hke : k = n := by omega
        subst hke
        have hl : decide ((k : Int) < (k : Int)) = false := decide_eq_false (by omega)
        rw [show x.take k = x by rw [← HN.out]; exact List.take_length] at ho
        have HO := Lib.hid ho
        clear ho
        obtain ⟨v, rfl⟩ : ∃ v, v = u4 := ⟨_, rfl⟩
        obtain ⟨B, d, hv, hd, hks, hB⟩ := (show OwnS wr w.heap.size 104 3 v x.length (keepCells x) by rw [HN.out]; exact HO.out).keeps HX.out.wf
        have HKS := Lib.hid hks
        rw [HN.out] at hv hd
        subst hv
        clear hks
        go_wp2_with fail
        go_ret2
        exact ⟨B, d, by rw [HN.out]; rfl, by rw [HN.out]; exact hd, HKS.out, hB, hu⟩
end Go.Proofs.Ytehdigkjbobndaa
