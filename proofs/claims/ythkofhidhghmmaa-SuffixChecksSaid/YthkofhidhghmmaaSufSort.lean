/- suffix.Sort by hand: the closure captures the text; slices.SortFunc by its contract. -/
import Derived.Test.YthkofhidhghmmaaSufWalk
import Derived.Test.YthkofhidhghmmaaLexC
import Derived.Test.YthkofhidhghmmaaArr
import Derived.Test.YthkofhidhghmmaaSortF
import Derived.Shelf.SlSortCmp.Whole1
namespace Go.Proofs.Ythkofhidhghmmaa
open Go.RowKit
set_option maxRecDepth 100000

def encF (m : Nat) (i : Fin (m + 1)) : Value := .int .i64 (i.val : Nat)
def cfF (l : List Int) (m : Nat) (i j : Fin (m + 1)) : Int := cmpS l i.val j.val
theorem swoF (l : List Int) (m : Nat) : Go.Sort.SWO (ltOf (cfF l m)) where
  irrefl x := by unfold ltOf cfF; rw [cmpS_self]; rfl
  trans x y z h1 h2 := by
    unfold ltOf cfF at *
    exact decide_eq_true (cmpS_trans (of_decide_eq_true h1) (of_decide_eq_true h2))
  ntrans x y z h1 h2 := by
    unfold ltOf cfF at *
    have h1 := of_decide_eq_false h1
    have h2 := of_decide_eq_false h2
    have := cmpS_ntrans (l := l) (i := x.val) (j := y.val) (k := z.val) (by omega) (by omega)
    exact decide_eq_false (by omega)
/-- The places, each one once. -/
def allF (m : Nat) : Array (Fin (m + 1)) := (List.finRange (m + 1)).toArray
theorem allF_size (m : Nat) : (allF m).size = m + 1 := by simp [allF]
theorem allF_get (m j : Nat) (h : j < m + 1) : (allF m)[j]! = ⟨j, h⟩ := by
  rw [getElem!_pos _ j (by rw [allF_size]; exact h)]
  simp [allF]
theorem sortedF {l : List Int} {m : Nat} (hl : l.length = m + 1) (d : Array (Fin (m + 1))) (hp : Go.Sort.PermIn 0 (allF m).size (allF m) d) (hs : Go.Sort.SortedIn (ltOf (cfF l m)) 0 (allF m).size d) :
    d.size = m + 1 ∧ d.toList.map (fun i => ((i.val : Nat) : Int)) = sortS l := by
  obtain ⟨h1, _, h2⟩ := hp
  rw [allF_size] at h1
  rw [← h1.trans (allF_size m).symm] at h2
  have h2 : d.toList.Perm (List.finRange (m + 1)) := by
    have e1 : (d.extract 0 d.size).toList = d.toList := by simp
    have e2 : ((allF m).extract 0 d.size).toList = List.finRange (m + 1) := by
      rw [h1.trans (allF_size m).symm]
      simp [allF]
      exact List.take_of_length_le (by simp)
    rw [e1, e2] at h2
    exact h2
  refine ⟨h1, ?_⟩
  have hperm : (d.toList.map (·.val)).Perm (List.range (m + 1)) := by
    have := h2.map (·.val)
    rwa [show (List.finRange (m + 1)).map (·.val) = List.range (m + 1) from List.ext_getElem (by simp) fun i h1 h2 => by simp] at this
  have hnd : (d.toList.map (·.val)).Nodup := hperm.nodup_iff.2 List.nodup_range
  have hr : Rises l (d.toList.map (·.val)) := by
    unfold Rises
    rw [List.pairwise_iff_getElem]
    intro i j hi hj hij
    simp only [List.length_map, Array.length_toList] at hi hj
    have hh := hs i j (by omega) hij (by rw [allF_size, ← h1]; exact hj)
    rw [getElem!_pos d j hj, getElem!_pos d i hi] at hh
    unfold ltOf cfF at hh
    have hh := of_decide_eq_false hh
    have hne : cmpS l d[i].val d[j].val ≠ 0 := fun e => by
      have := cmpS_eq (by have := d[i].isLt; omega) (by have := d[j].isLt; omega) e
      have h3 := List.pairwise_iff_getElem.1 hnd i j (by simpa using hi) (by simpa using hj) hij
      simp at h3
      exact h3 this
    have := cmpS_swap l d[i].val d[j].val
    simp
    omega
  have := Rises.one hr (sortN_rises l l.length (Nat.le_refl _)) (hperm.trans (by rw [← hl]; exact (sortN_perm l l.length).symm))
  unfold sortS
  rw [← this, List.map_map]
  rfl

theorem putCells_all {α : Type} [Inhabited α] (enc : α → Value) (d : Array α) (cs : Array Value) (h : d.size = cs.size) : Go.Sort.putCells enc 0 d cs = d.map enc := by
  unfold Go.Sort.putCells
  refine Array.ext (by simp [h]) fun i h1 h2 => ?_
  simp at h2
  simp [h2]
theorem sortWorld_blk {α : Type} [Inhabited α] (enc : α → Value) {w : World} {blk e : Nat} {cs : Array Value} (h : Blk w blk e cs) (n : Nat) (d : Array α) (os : Array Obj) (hs : d.size = cs.size) :
    Blk (sortWorld enc w blk 0 n d os) blk e (d.map enc) := by
  constructor
  unfold sortWorld
  rw [Go.Sort.heap_grow_old _ _ (by unfold Go.Sort.putRow Go.Sort.mapBlock; simp; exact h.lt)]
  unfold Go.Sort.putRow Go.Sort.mapBlock
  simp only [Array.getElem?_modify, if_true]
  rw [show (Go.Sort.ahead w n).heap[blk]? = _ from h.out]
  simp [Go.Sort.onCells, putCells_all enc d cs hs]
theorem sortWorld_upx {α : Type} [Inhabited α] (enc : α → Value) (w : World) (blk n : Nat) (d : Array α) (os : Array Obj) : UpX (fun b => b = blk) w (sortWorld enc w blk 0 n d os) := by
  refine ⟨rfl, rfl, rfl, by unfold sortWorld Go.Sort.grow Go.Sort.putRow Go.Sort.mapBlock Go.Sort.ahead; simp, fun k hk hne => ?_⟩
  unfold sortWorld
  rw [Go.Sort.heap_grow_old _ _ (by unfold Go.Sort.putRow Go.Sort.mapBlock Go.Sort.ahead; simp; exact hk)]
  unfold Go.Sort.putRow Go.Sort.mapBlock Go.Sort.ahead
  simp only [Array.getElem?_modify]
  rw [if_neg (fun e => hne e.symm)]
theorem Own.of_blk {w : World} {g e base : Nat} {xs : List Int} (h : Blk w g e (cellsOf .i64 xs)) (hb : base ≤ g) (hm : xs.length ≤ 65536) (hwf : ∀ x ∈ xs, InK .i64 x) : Own w base e .i64 (.slice (some ⟨g, 0, none⟩) xs.length xs.length) xs :=
  ⟨⟨by simp, .inr ⟨g, xs.length, _, rfl, hb, h.out, Nat.le_refl _, by simp [maxLen]; omega, by simp [cellsOf], by simp [cellsOf]; exact List.take_of_length_le (by simp)⟩⟩, hwf⟩

/-- make([]T, n): a block known whole. -/
theorem wpl_makeB {P : Program} {w : World} {ops : Array Oper} {rest : List Oper} {a : Act} {Q : Exit → Act → World → Prop} {dst : Option Tmp} {ty : TypeId} {pos : String} {after : Array Edge}
    {x y : Operand} {t : TypeId} (e : Nat) (k : IntKind) (bytes : Nat) (ht : P.underlying t = some (.slice e)) (hi : (P.info? e).map (fun i => (i.zero, i.size, i.bytes)) = some (some (.int k 0), 1, bytes))
    (n : Nat) (hx : a.eval x = .int .i64 (n : Int)) (hy : a.eval y = .int .i64 (n : Int)) (hb : bytes * n ≤ 281474976710656) (hm : n ≤ 281474976710656)
    (h : ∀ w', Blk w' w.heap.size e (cellsOf k (List.replicate n 0)) → Up w w' → w'.heap.size = w.heap.size + 1 → wpList P ops Q rest (a.put dst (.slice (some ⟨w.heap.size, 0, none⟩) n n)) w') :
    wpList P ops Q ({ dst := dst, op := .makeSlice t x y, type := ty, pos := pos, after := after, guard := none } :: rest) a w := by
  refine wpList_plain rfl fun K hK => ?_
  have hr := run_make_row' (P := P) t e (.int k 0) bytes ht hi rfl .i64 .i64 n hb (by omega) w
  unfold Oper.wp
  simp only [execOp]
  rw [hx, hy]
  simp only [Sem.run_bind, hr, Result.andThen]
  refine hK _ _ (h _ ?_ ((Up.refl w).alloc _) (by simp))
  rw [made_cells k n]
  exact Blk.new w e _

set_option maxHeartbeats 1000000 in
theorem sufSortF_calls (A : Option Addr) (n c0 B : Nat) (i j : Nat) (r : Int) (W : World) (hB : W.cell? ⟨B, 0, none⟩ = some (.slice A n c0))
    (h : Calls Try.prog 51 #[.slice A n c0, .int .i64 i, .int .i64 j] W fun e w' => e = .returned (.int .i64 r) ∧ ∃ q, w' = W.drewN q) :
    Calls Try.prog 50 (#[.int .i64 i, .int .i64 j] ++ #[.pointer (some ⟨B, 0, none⟩)]) W fun e w' => e = .returned (.int .i64 r) ∧ ∃ q, w' = W.drewN q := by
  have H := Lib.hid h
  clear h
  go_enter Try.func50, Try.ntmps50
  go_wp2_with fail
  refine (H.out).mono ?_
  rintro e w' ⟨rfl, q, rfl⟩
  go_wp2_with fail
  go_ret
  exact ⟨rfl, q, rfl⟩
/-- The places ahead of k, and noughts. -/
def upTo (k n : Nat) : List Int := (List.range n).map fun j => if j < k then (j : Int) else 0
theorem upTo_len (k n : Nat) : (upTo k n).length = n := by simp [upTo]
theorem upTo_zero (n : Nat) : upTo 0 n = List.replicate n 0 := by
  refine List.ext_getElem (by simp [upTo]) fun i h1 h2 => by simp [upTo]
theorem upTo_set (k n : Nat) : (upTo k n).set k (k : Int) = upTo (k + 1) n := by
  refine List.ext_getElem (by simp [upTo]) fun i h1 h2 => ?_
  rw [List.getElem_set]
  simp only [upTo, List.getElem_map, List.getElem_range]
  by_cases h : k = i
  · subst h; simp
  · rw [if_neg h]
    by_cases h3 : i < k
    · rw [if_pos h3, if_pos (by omega)]
    · rw [if_neg h3, if_neg (by omega)]
theorem holdsF (w : World) (g e m : Nat) (h : Blk w g e (cellsOf .i64 (upTo (m + 1) (m + 1)))) : Go.Sort.Holds (encF m) w g 0 (allF m) := by
  intro j hj
  rw [allF_size] at hj
  refine ⟨?_, h.frozen _⟩
  rw [Nat.zero_add, h.cell, cellsOf_get _ _ _ (by rw [upTo_len]; exact hj), allF_get m j hj]
  simp [encF, upTo, List.getD_eq_getElem?_getD, hj]

structure SortPost (w : World) (l : List Int) (e : Int) (en : Ending) (w' : World) : Prop where mk ::
  up : Up w w'
  out : ∃ v, en = .returned (.tuple #[v, .int .i64 e]) ∧ Own w' w.heap.size 3 .i64 v (if e = 0 then sortS l else [])

set_option maxHeartbeats 1000000 in
theorem sortCall (A : Option Addr) (c0 : Nat) (l : List Int) (n B G base : Nat) (wr : World) (hl : l.length = n) (hn : 0 < n) (h16 : n ≤ 65536)
    (hb : Blk wr G 3 (cellsOf .i64 (upTo n n))) (hB : Blk wr B 22 #[.slice A n c0]) (hne : B ≠ G) (hbase : base ≤ G)
    (hcmp : ∀ W, UpX (fun b => b = G) wr W → ∀ i j : Nat, i < n → j < n → Calls Try.prog 51 #[.slice A n c0, .int .i64 i, .int .i64 j] W fun en w'' => en = .returned (.int .i64 (cmpS l i j)) ∧ ∃ q, w'' = W.drewN q) :
    Calls Try.prog 49 #[.slice (some ⟨G, 0, none⟩) n n, .func (.func 50) #[] #[.pointer (some ⟨B, 0, none⟩)]] wr fun en w' =>
      en = .returned (.tuple #[]) ∧ Own w' base 3 .i64 (.slice (some ⟨G, 0, none⟩) n n) (sortS l) ∧ UpX (fun b => b = G) wr w' := by
  obtain ⟨m, rfl⟩ : ∃ m, n = m + 1 := ⟨n - 1, by omega⟩
  have hsz : (cellsOf .i64 (upTo (m + 1) (m + 1))).size = m + 1 := by rw [cellsOf_size, upTo_len]
  have hcon := Any.slices_SortFunc Try.sortInts (encF m) (fun _ => rfl) (cfF l m) (swoF l m) 50 #[.pointer (some ⟨B, 0, none⟩)] G 0 (m + 1) (allF m) wr (fun args w => by kernel_rfl)
    (CmpReads.lays fun n os dk hdk x y => by
      have hux := sortWorld_upx (encF m) wr G n dk os
      have hBx := (hB.upx hux hne).cell 0
      exact sufSortF_calls A (m + 1) c0 B x.val y.val _ _ (by rw [hBx]; rfl) (hcmp _ hux x.val y.val x.isLt y.isLt))
    (holdsF wr _ 3 m hb) hb.lt (by rw [allF_size]; omega)
  change Calls Try.prog 49 _ _ _ at hcon
  rw [allF_size] at hcon
  refine hcon.mono ?_
  rintro en w' ⟨rfl, d', n, os, hp, hs, rfl⟩
  obtain ⟨hd1, hd2⟩ := sortedF hl d' (show Go.Sort.PermIn 0 (allF m).size (allF m) d' by rw [allF_size]; exact hp) (show Go.Sort.SortedIn (ltOf (cfF l m)) 0 (allF m).size d' by rw [allF_size]; exact hs)
  have hbf := sortWorld_blk (encF m) hb n d' os (by rw [hd1, hsz])
  have hce : d'.map (encF m) = cellsOf .i64 (sortS l) := by
    rw [← hd2]
    unfold cellsOf
    rw [List.map_map]
    refine Array.ext (by simp) fun i h1 h2 => by simp [encF]
  rw [hce] at hbf
  have hsl := sortS_len l
  have hown := Own.of_blk (base := base) hbf hbase (by omega) (fun x hx => by
    obtain ⟨y, hy, rfl⟩ := List.mem_map.1 hx
    have := (sortN_mem l _ y).1 hy
    exact InK.of_i64 (by show (-9223372036854775808 : Int) ≤ (y : Int); omega) (by show (y : Int) ≤ 9223372036854775807; omega))
  rw [hsl, hl] at hown
  exact ⟨rfl, hown, sortWorld_upx (encF m) wr G n d' os⟩

set_option maxHeartbeats 4000000 in
theorem sufSort_bad (A : Option Addr) (c0 : Nat) (l : List Int) (e : Int) (w : World) (he : e ≠ 0)
    (hck : ∀ w', Up w w' → Calls Try.prog 33 #[.slice A l.length c0] w' fun en w'' => en = .returned (.int .i64 e) ∧ ∃ q, w'' = w'.drewN q) :
    Calls Try.prog 18 #[.slice A l.length c0] w (SortPost w l e) := by
  have HCK := Lib.hid hck
  clear hck
  have hb1 : (e != 0) = true := by simpa using he
  have hb2 : (e == 0) = false := by simpa using he
  go_enter Try.func18, Try.ntmps18
  go_wp2_with fail
  refine (HCK.out _ ((Up.refl w).alloc _)).mono ?_
  rintro en w' ⟨rfl, q, rfl⟩
  go_wp2_with fail
  go_ret2
  refine ⟨(((Up.refl w).alloc _).drewN q), _, rfl, ?_⟩
  rw [if_neg he]
  exact Own.nil _ _ _ _

set_option maxHeartbeats 8000000 in
theorem sufSort_calls (A : Option Addr) (c0 : Nat) (l : List Int) (w : World) (hl : l.length ≤ 65536) (hne : l ≠ [])
    (hck : ∀ w', Up w w' → Calls Try.prog 33 #[.slice A l.length c0] w' fun en w'' => en = .returned (.int .i64 0) ∧ ∃ q, w'' = w'.drewN q)
    (hcmp : ∀ w', Up w w' → ∀ i j : Nat, i < l.length → j < l.length → Calls Try.prog 51 #[.slice A l.length c0, .int .i64 i, .int .i64 j] w' fun en w'' => en = .returned (.int .i64 (cmpS l i j)) ∧ ∃ q, w'' = w'.drewN q) :
    Calls Try.prog 18 #[.slice A l.length c0] w (SortPost w l 0) := by
  have HCK := Lib.hid hck
  have HCM := Lib.hid hcmp
  have HP := Lib.hid (List.length_pos_iff.2 hne)
  clear hck hcmp hne
  go_enter Try.func18, Try.ntmps18
  go_wp2_with fail
  refine (HCK.out _ ((Up.refl w).alloc _)).mono ?_
  rintro en w' ⟨rfl, q, rfl⟩
  go_wp2_with (refine wpl_makeB 3 .i64 8 Try.underlying22 infoInt' l.length rfl rfl (by omega) (by omega) ?_; intro w2 hb2 hu2 hs2)
  have hB2 : Blk w2 w.heap.size 22 #[.slice A l.length c0] := ((Blk.new w 22 _).drewN q).up hu2
  have hU2 : Up w w2 := (((Up.refl w).alloc (.cells #[.slice A l.length c0] 22)).drewN q).trans hu2
  have hb2 : Blk w2 (w.heap.size + 1) 3 (cellsOf .i64 (List.replicate l.length 0)) := by simpa using hb2
  clear hs2 hu2
  go_loopw [6, 17] (fun _ i wr => ∃ k : Nat, k ≤ l.length ∧ i = .int .i64 k ∧ Blk wr (w.heap.size + 1) 3 (cellsOf .i64 (upTo k l.length)) ∧ Blk wr w.heap.size 22 #[.slice A l.length c0] ∧ Up w wr) (fun _ i _ => l.length - (intOf i).toNat)
  case atStart => exact ⟨0, by omega, rfl, by rw [upTo_zero]; exact hb2, hB2, hU2⟩
  case round =>
    obtain ⟨k, hk, rfl, hb, hB, hU⟩ := hrel
    by_cases hlt : k < l.length
    · have hg := (hb.cell k).trans (cellsOf_get _ _ k (by rw [upTo_len]; exact hlt))
      have hf := hb.frozen k
      have HS := Lib.hid (upTo_set k l.length)
      generalize (upTo k l.length).getD k 0 = x0 at hg
      go_wp2_with fail
      go_roundw
      case rel => exact ⟨k + 1, by omega, by simp, by rw [← HS.out, ← cellsOf_set]; exact hb.set k _, hB.other _ _ (by show w.heap.size ≠ w.heap.size + 1; omega), hU.setCell (by show w.heap.size ≤ w.heap.size + 1; omega) _⟩
      case measure => simp [intOf]; omega
    · have hke : k = l.length := by omega
      subst hke
      clear hB2 hU2 hb2
      have hp2 := HP.out
      have HC := Lib.hid (sortCall A c0 l l.length w.heap.size (w.heap.size + 1) w.heap.size wr rfl hp2 hl hb hB (by omega) (by omega) fun W hux i j hi hj => HCM.out W (hU.thenx hux fun i hi e => by omega) i j hi hj)
      have hHU := Lib.hid hU
      clear hp2 hB hb hU
      go_wp2_with fail
      refine (HC.out).mono ?_
      rintro en w' ⟨rfl, hown, hux⟩
      have huf : Up w w' := hHU.out.thenx hux fun i hi e => by omega
      clear hux HC
      go_wp2_with fail
      go_ret2
      exact ⟨huf, _, rfl, by rw [if_pos rfl]; exact hown⟩
end Go.Proofs.Ythkofhidhghmmaa
