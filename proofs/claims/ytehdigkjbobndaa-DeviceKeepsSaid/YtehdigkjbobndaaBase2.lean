/- append to a slice of one's own, with where the new one lies: in the old one's block, or in a new one. Over any program. -/
import Derived.Test.YtehdigkjbobndaaBase
namespace Go.Proofs.Ytehdigkjbobndaa
open Go.RowKit

/-- The slice lies where the old one lay, or in a block that is new, and nothing old has changed. -/
structure Near (w w' : World) (v v' : Value) : Prop where mk ::
  out : v'.ownBlock = v.ownBlock ∨ (Up w w' ∧ ∀ b, v'.ownBlock = some b → w.heap.size ≤ b)
theorem Near.blocks {w w' : World} {v v' : Value} (h : Near w w' v v') : ∀ b, v'.ownBlock = some b → v.ownBlock = some b ∨ w.heap.size ≤ b := by
  intro b hb
  rcases h.out with h | h
  · exact .inl (h ▸ hb)
  · exact .inr (h.2 b hb)

theorem append_near {P : Program} (w : World) (base : Nat) (t ty e : TypeId) (i : TypeInfo) (z : Value) (ht : P.underlying t = some (.slice e)) (hi : P.info? e = some i) (hz : i.zero = some z) (hsize : i.size = 1)
    (v : Value) (n : Nat) (xs : List Value) (hown : w.ownsRow base e 1 v n xs) (a : Addr) (m c : Nat) (news : List Value) (hl : news.length = m) (hnews : ∀ j u, news[j]? = some u → w.cell? (a.add j) = some u) (h1 : ∀ u ∈ news, u.oneCell' = true)
    (hmax : n + m ≤ 9223372036854775807) (hbytes : (n + m) * i.bytes ≤ 140737488355328) (v' : Value) (w' : World) (hr : (Builtin.append_ #[t, t] ty #[v, .slice (some a) m c]).run P w = .ok v' w') : Near w w' v v' := by
  have hl' : news.length = m * i.size := by rw [hsize]; omega
  have hx1 : xs.length = n := by have := hown.1; omega
  rcases hown.2 with ⟨rfl, rfl⟩ | ⟨g, cap, cur, rfl, hbg, hg, hnc, hcm, hcs, htake⟩
  · by_cases hm : m = 0
    · subst hm
      have hn : news = [] := List.eq_nil_of_length_eq_zero (by omega)
      subst hn
      have : (Builtin.append_ #[t, t] ty #[.slice none 0 0, .slice (some a) 0 c]).run P w = .ok (.slice none 0 0) w := by
        simp [Builtin.append_, run_underlying ht, sizeOf, typeInfo, hi, Builtin.lenOf, Builtin.firstCells, loadCells, loadCellsFrom]
      rw [this] at hr
      injection hr with h2 h3
      exact ⟨.inl (by rw [← h2])⟩
    · have h2 := run_append_nil (P := P) w t ty e i z ht hi hz a m c news hl' hnews (by omega) (by omega) (by simp only [Nat.zero_add] at hbytes; omega)
      rw [h2] at hr
      injection hr with h2 h3
      refine ⟨.inr ⟨by rw [← h3]; exact ((Up.refl w).drew).alloc _, fun b hb => ?_⟩⟩
      rw [← h2] at hb
      simp only [Value.ownBlock, Option.some.injEq] at hb
      omega
  · by_cases hroom : n + m ≤ cap
    · have h2 := run_append_room (P := P) w t ty e i ht hi g n cap cur hg a m c news hl' hnews h1 hroom (by rw [hsize]; omega)
      rw [h2] at hr
      injection hr with h2 _
      exact ⟨.inl (by rw [← h2]; rfl)⟩
    · have h2 := run_append_grow (P := P) w t ty e i z ht hi hz ⟨g, 0, none⟩ n cap xs (by rw [hsize]; omega) (hown.cells (g := g) rfl) a m c news hl' hnews (by omega) (by omega) (growslice_fits (by omega) hbytes)
      rw [h2] at hr
      injection hr with h2 h3
      refine ⟨.inr ⟨by rw [← h3]; exact ((Up.refl w).drew).alloc _, fun b hb => ?_⟩⟩
      rw [← h2] at hb
      simp only [Value.ownBlock, Option.some.injEq] at hb
      omega

/-- append to a slice of one's own, of values that lie in cells. -/
theorem wpl_appendV2 {P : Program} {w : World} {ops : Array Oper} {rest : List Oper} {a : Act} {Q : Exit → Act → World → Prop} {dst : Option Tmp} {ty : TypeId} {pos : String} {after : Array Edge}
    {s x : Operand} {t : TypeId} (base e : Nat) (z : Value) (bytes : Nat) (ht : P.underlying t = some (.slice e)) (hi : (P.info? e).map (fun i => (i.zero, i.size, i.bytes)) = some (some z, 1, bytes)) (hz1 : z.cells.size = 1)
    (v : Value) (vs : List Value) (hs : a.eval s = v) (hown : OwnV w base e v vs)
    (ad : Addr) (m c : Nat) (news : List Value) (hx : a.eval x = .slice (some ad) m c) (hm : m = news.length) (hnews : ∀ j u, news[j]? = some u → w.cell? (ad.add j) = some u) (h1c : ∀ u ∈ news, u.oneCell' = true)
    (hb : (vs.length + news.length) * bytes ≤ 140737488355328) (hbytes : 1 ≤ bytes) (hbase : base ≤ w.heap.size)
    (h : ∀ v' w', OwnV w' base e v' (vs ++ news) → UpX (fun b => v.ownBlock = some b) w w' → Near w w' v v' → wpList P ops Q rest (a.put dst v') w') :
    wpList P ops Q ({ dst := dst, op := .call { callee := .builtin .append, args := #[s, x], argTypes := #[t, t] }, type := ty, pos := pos, after := after, guard := none } :: rest) a w := by
  obtain ⟨i, hi, hz, hsz, hby⟩ := info_parts hi
  have hmax : vs.length + news.length ≤ maxLen := by
    have : (vs.length + news.length) * 1 ≤ (vs.length + news.length) * bytes := Nat.mul_le_mul_left _ hbytes
    simp only [maxLen]; omega
  refine wpList_plain rfl fun K hK => ?_
  subst hm
  obtain ⟨v', w', hrun, h2, h3, _⟩ := run_append_own (P := P) w base t ty e i z 1 bytes ht hi hz hsz hby hz1 (by decide) v vs.length vs hown.row ad news.length c news (by simp) hnews h1c hmax hb hbase
  have hn := append_near w base t ty e i z ht hi hz hsz v vs.length vs hown.row ad news.length c news rfl hnews h1c (by simpa [maxLen] using hmax) (by rw [hby]; exact hb) v' w' hrun
  unfold Oper.wp
  simp [execOp, resolve, invoke, builtin, hs, hx, hrun, Result.andThen]
  refine hK _ _ (h v' w' ⟨by simpa using h2⟩ ⟨h3.os, h3.tape, h3.output, h3.size, fun b hb hne => h3.block b hb fun e => hne e.symm⟩ hn)

/-- append to a slice of one's own, of a slice that reads as numbers. -/
theorem wpl_append2 {P : Program} {w : World} {ops : Array Oper} {rest : List Oper} {a : Act} {Q : Exit → Act → World → Prop} {dst : Option Tmp} {ty : TypeId} {pos : String} {after : Array Edge}
    {s x : Operand} {t : TypeId} (base e : Nat) (k : IntKind) (bytes : Nat) (ht : P.underlying t = some (.slice e)) (hi : (P.info? e).map (fun i => (i.zero, i.size, i.bytes)) = some (some (.int k 0), 1, bytes))
    (v : Value) (xs : List Int) (hs : a.eval s = v) (hown : Own w base e k v xs) (ad : Addr) (m c : Nat) (ys : List Int) (hx : a.eval x = .slice (some ad) m c) (hm : m = ys.length) (hy : Rd w k (some ad) c ys)
    (hb : (xs.length + ys.length) * bytes ≤ 140737488355328) (hbytes : 1 ≤ bytes) (hbase : base ≤ w.heap.size)
    (h : ∀ v' w', Own w' base e k v' (xs ++ ys) → UpX (fun b => v.ownBlock = some b) w w' → Near w w' v v' → wpList P ops Q rest (a.put dst v') w') :
    wpList P ops Q ({ dst := dst, op := .call { callee := .builtin .append, args := #[s, x], argTypes := #[t, t] }, type := ty, pos := pos, after := after, guard := none } :: rest) a w := by
  refine wpl_appendV2 base e (.int k 0) bytes ht hi rfl v (xs.map (.int k)) hs ⟨by simpa using hown.row⟩ ad m c (ys.map (.int k)) hx (by simpa using hm) ?_ ?_ (by simpa using hb) hbytes hbase ?_
  · intro j u hu
    obtain ⟨hj, rfl⟩ := List.getElem?_eq_some_iff.1 hu
    simp only [List.length_map] at hj
    rw [hy.cell ad rfl j hj]
    simp [List.getD_eq_getElem?_getD, List.getElem?_eq_getElem hj]
  · intro u hu
    obtain ⟨_, _, rfl⟩ := List.mem_map.1 hu
    rfl
  · intro v' w' h1 h2 h3
    refine h v' w' ⟨by simpa using h1.row, fun y hy' => ?_⟩ h2 h3
    rcases List.mem_append.1 hy' with h4 | h4
    · exact hown.wf y h4
    · exact hy.wf y h4

/-- append of one value. -/
theorem wpl_push2 {P : Program} {w : World} {ops : Array Oper} {rest : List Oper} {a : Act} {Q : Exit → Act → World → Prop} {d1 : Tmp} {dst : Option Tmp} {ty ty1 : TypeId} {pos pos1 : String} {after after1 : Array Edge}
    {s x : Operand} {t : TypeId} (base e : Nat) (z : Value) (bytes : Nat) (ht : P.underlying t = some (.slice e)) (hi : (P.info? e).map (fun i => (i.zero, i.size, i.bytes)) = some (some z, 1, bytes)) (hz1 : z.cells.size = 1)
    (v : Value) (vs : List Value) (u : Value) (hx : a.eval x = u) (hu : u.oneCell' = true) (hs : ∀ y, (a.put (some d1) y).eval s = v) (hd : ∀ y, (a.put (some d1) y).eval (.tmp d1) = y)
    (hown : OwnV w base e v vs) (hb : (vs.length + 1) * bytes ≤ 140737488355328) (hbytes : 1 ≤ bytes) (hbase : base ≤ w.heap.size)
    (h : ∀ v' w', OwnV w' base e v' (vs ++ [u]) → UpX (fun b => v.ownBlock = some b) w w' → Near w w' v v' → wpList P ops Q rest ((a.put (some d1) (.slice (some ⟨w.heap.size, 0, none⟩) 1 1)).put dst v') w') :
    wpList P ops Q ({ dst := some d1, op := .buildSlice t 1 #[(0, x)], type := ty1, pos := pos1, after := after1, guard := none } ::
      { dst := dst, op := .call { callee := .builtin .append, args := #[s, .tmp d1], argTypes := #[t, t] }, type := ty, pos := pos, after := after, guard := none } :: rest) a w := by
  refine wpList_plain rfl fun K hK => ?_
  have hrun := run_lit1 (P := P) w ht hi u hu
  unfold Oper.wp
  simp [execOp, hx, hrun, Result.andThen]
  refine hK _ _ ?_
  have hup := (Up.refl w).alloc (.cells #[u] e)
  refine wpl_appendV2 base e z bytes ht hi hz1 v vs (hs _) (hown.up hup) ⟨w.heap.size, 0, none⟩ 1 1 [u] (hd _) rfl ?_ (by simp [hu]) (by simpa using hb) hbytes (by simp; omega) ?_
  · intro j y hj
    cases j with
    | zero =>
      simp only [List.getElem?_cons_zero, Option.some.injEq] at hj
      subst hj
      exact (Blk.new w e #[u]).cell 0
    | succ j => simp at hj
  · intro v' w' h1 h2 h3
    refine h v' w' h1 ((hup.x _).trans h2) ⟨?_⟩
    rcases h3.out with h | h
    · exact .inl h
    · exact .inr ⟨hup.trans h.1, fun b hb => by have := h.2 b hb; have := hup.size; omega⟩

/-- .. of a whole number. -/
theorem wpl_push_int2 {P : Program} {w : World} {ops : Array Oper} {rest : List Oper} {a : Act} {Q : Exit → Act → World → Prop} {d1 : Tmp} {dst : Option Tmp} {ty ty1 : TypeId} {pos pos1 : String} {after after1 : Array Edge}
    {s x : Operand} {t : TypeId} (base e : Nat) (k : IntKind) (bytes : Nat) (ht : P.underlying t = some (.slice e)) (hi : (P.info? e).map (fun i => (i.zero, i.size, i.bytes)) = some (some (.int k 0), 1, bytes))
    (v : Value) (xs : List Int) (n : Int) (hx : a.eval x = .int k n) (hn : InK k n) (hs : ∀ y, (a.put (some d1) y).eval s = v) (hd : ∀ y, (a.put (some d1) y).eval (.tmp d1) = y)
    (hown : Own w base e k v xs) (hb : (xs.length + 1) * bytes ≤ 140737488355328) (hbytes : 1 ≤ bytes) (hbase : base ≤ w.heap.size)
    (h : ∀ v' w', Own w' base e k v' (xs ++ [n]) → UpX (fun b => v.ownBlock = some b) w w' → Near w w' v v' → wpList P ops Q rest ((a.put (some d1) (.slice (some ⟨w.heap.size, 0, none⟩) 1 1)).put dst v') w') :
    wpList P ops Q ({ dst := some d1, op := .buildSlice t 1 #[(0, x)], type := ty1, pos := pos1, after := after1, guard := none } ::
      { dst := dst, op := .call { callee := .builtin .append, args := #[s, .tmp d1], argTypes := #[t, t] }, type := ty, pos := pos, after := after, guard := none } :: rest) a w := by
  refine wpl_push2 base e (.int k 0) bytes ht hi rfl v (xs.map (.int k)) (.int k n) hx rfl hs hd ⟨by simpa using hown.row⟩ (by simpa using hb) hbytes hbase ?_
  intro v' w' h1 h2 h3
  refine h v' w' ⟨by simpa using h1.row, ?_⟩ h2 h3
  intro y hy
  rcases List.mem_append.1 hy with h3 | h3
  · exact hown.wf y h3
  · rw [List.mem_singleton.1 h3]; exact hn

/-- Two slices apart, of which one was appended to. -/
theorem Near.apart {w w' : World} {v v' u : Value} (h : Near w w' v v') (hne : ∀ g, v.ownBlock = some g → ¬ u.ownBlock = some g) (hu : ∀ g, u.ownBlock = some g → g < w.heap.size) : ∀ g, v'.ownBlock = some g → ¬ u.ownBlock = some g := by
  intro g h1 h2
  rcases h.blocks g h1 with h3 | h3
  · exact hne g h3 h2
  · have := hu g h2; omega
/-- What was appended to reads as before. -/
theorem Near.rd {w w' : World} {base e : Nat} {k : IntKind} {v v' : Value} {xs ys : List Int} {B : Option Addr} {n c : Nat} (h : Near w w' v v') (hv : Own w base e k v xs) (hv' : Own w' base e k v' (xs ++ ys)) (he : v = .slice B n c) : Rd w' k B c xs := by
  obtain ⟨B0, c0, e0, hr⟩ := hv.rd
  rw [he] at e0
  simp only [Value.slice.injEq] at e0
  obtain ⟨rfl, rfl, rfl⟩ := e0
  rcases h.out with h | h
  · refine ⟨hr.le, hr.mx, hr.non, fun ad e1 j hj => ?_, hr.wf⟩
    subst e1
    rcases hv.row.2 with ⟨h0, _⟩ | ⟨g, cap, cur, h0, _⟩
    · rw [he] at h0; cases h0
    · rw [he] at h0
      simp only [Value.slice.injEq, Option.some.injEq] at h0
      obtain ⟨rfl, _⟩ := h0
      rw [he] at h
      have := hv'.row.cells (g := g) (by rw [h]; rfl) j (.int k (xs.getD j 0)) (by
        rw [List.getElem?_map, List.getElem?_append_left hj, List.getElem?_eq_getElem hj]
        simp [List.getD_eq_getElem?_getD, List.getElem?_eq_getElem hj])
      exact this
  · exact hr.up h.1
end Go.Proofs.Ytehdigkjbobndaa
