/- append of so many zeros to a slice of one's own (append(x, make([]T, n)...)). Over any program. -/
import Derived.Test.YtneliajeokajbaaBase2
import Derived.Lib.AppendZeros
import Derived.Lib.AppendZerosOnto
namespace Go.Proofs.Ytneliajeokajbaa
open Go.RowKit

theorem zeroCells_one (z : Value) (n : Nat) : Builtin.zeroCells #[z] n = (List.replicate n z).toArray := by
  simp [Builtin.zeroCells]
  refine Array.ext (by simp) fun i h1 h2 => by simp [Nat.mod_one]
theorem run_append_room_zeros {P : Program} (w : World) (t tn ty e : TypeId) (i : TypeInfo) (z : Value) (kq kn : IntKind) (ht : P.underlying t = some (.slice e)) (htn : P.underlying tn = some (.int kn)) (hi : P.info? e = some i) (hz : i.zero = some z)
    (hsz : i.size = 1) (hzc : z.cells = #[z]) (hz1 : z.oneCell' = true) (g sLen sCap : Nat) (cur : Array Value) (hg : w.heap[g]? = some (.cells cur e (0, 0))) (k : Nat) (hroom : sLen + k ≤ sCap) (hcur : sCap ≤ cur.size) (h63 : sCap ≤ 9223372036854775807) (h48 : k * i.bytes ≤ 281474976710656) :
    (Builtin.append_ #[t, tn] ty #[.slice (some ⟨g, 0, none⟩) sLen sCap, .int kq k]).run P w =
      .ok (.slice (some ⟨g, 0, none⟩) (sLen + k) sCap) (w.setRow g (cur.toList.take sLen ++ List.replicate k z ++ cur.toList.drop (sLen + k)).toArray) := by
  have hw : IntKind.i64.wrap (k : Int) = k := by rw [IntKind.wrap_i64]; omega
  have h48i : ¬ (281474976710656 < (k : Int) * (i.bytes : Int)) := by
    rw [← Int.natCast_mul]
    omega
  have hneg : ¬ ((k : Int) < 0) := by omega
  have hst := run_storeCells_at P g sLen e (List.replicate k z) 0 cur w hg (by simp; omega) (by intro u hu; rw [List.eq_of_mem_replicate hu]; exact hz1)
  simp only [Nat.add_zero] at hst
  by_cases hk : k = 0
  · subst hk
    simp at hst
    have hw0 : IntKind.i64.wrap 0 = 0 := by rw [IntKind.wrap_i64]; rfl
    simp [hw0, Builtin.append_, run_underlying ht, run_underlying htn, sizeOf, typeInfo, zeroValue, hi, asInt, asIntOf, hsz, Addr.add_lit, show sLen ≤ sCap by omega, hst]
  · simp [Builtin.append_, run_underlying ht, run_underlying htn, sizeOf, typeInfo, zeroValue, hi, hz, asInt, asIntOf, hw, hneg, h48i, hroom, hsz, hk, hzc, zeroCells_one, Addr.add_lit, hst]
theorem run_append_own_zeros {P : Program} (w : World) (base : Nat) (t tn ty e : TypeId) (i : TypeInfo) (k : IntKind) (ht : P.underlying t = some (.slice e)) (htn : P.underlying tn = some (.int .i64)) (hi : P.info? e = some i) (hz : i.zero = some (.int k 0)) (hsz : i.size = 1)
    (v : Value) (xs : List Int) (hown : Own w base e k v xs) (n : Nat) (hb : (xs.length + n) * i.bytes ≤ 140737488355328) (hby : 1 ≤ i.bytes) (hbase : base ≤ w.heap.size) :
    ∃ v' w', (Builtin.append_ #[t, tn] ty #[v, .int .i64 n]).run P w = .ok v' w' ∧ Own w' base e k v' (xs ++ List.replicate n 0) ∧ UpX (fun b => v.ownBlock = some b) w w' ∧ Near w w' v v' := by
  have hmax : xs.length + n ≤ 140737488355328 := by
    have : (xs.length + n) * 1 ≤ (xs.length + n) * i.bytes := Nat.mul_le_mul_left _ hby
    omega
  have hnb : n * i.bytes ≤ 281474976710656 := by
    have : n * i.bytes ≤ (xs.length + n) * i.bytes := Nat.mul_le_mul_right _ (by omega)
    omega
  have hwf : ∀ x ∈ xs ++ List.replicate n (0 : Int), InK k x := by
    intro x hx
    rcases List.mem_append.1 hx with h | h
    · exact hown.wf x h
    · rw [List.eq_of_mem_replicate h]
      exact ⟨by cases k <;> rfl⟩
  have hlen : (xs ++ List.replicate n (0 : Int)).length = xs.length + n := by simp
  have hmap : (xs ++ List.replicate n (0 : Int)).map (Value.int k) = xs.map (Value.int k) ++ List.replicate n (Value.int k 0) := by simp
  rcases hown.row.2 with ⟨rfl, h0⟩ | ⟨g, cap, cur, rfl, hbg, hg, hnc, hcm, hcs, htake⟩
  · have hx0 : xs = [] := List.eq_nil_of_length_eq_zero h0
    subst hx0
    by_cases hn : n = 0
    · subst hn
      refine ⟨.slice none 0 0, w, ?_, Own.nil _ _ _ _, UpX.refl _ _, ⟨.inl rfl⟩⟩
      have hw0 : IntKind.i64.wrap 0 = 0 := by rw [IntKind.wrap_i64]; rfl
      simp [hw0, Builtin.append_, run_underlying ht, run_underlying htn, sizeOf, typeInfo, hi, asInt, asIntOf]
    · have hr := Lib.run_append_nil_zeros (P := P) w t tn ty e i (.int k 0) .i64 .i64 ht htn hi hz n (by omega) (by omega) (by omega) hnb
      have hcap : grownCap w n 0 e ≤ maxLen := grownCap_le_maxLen w n 0 e (by simp only [maxLen]; omega)
      have hge : n ≤ grownCap w n 0 e := grownCap_ge w n 0 e
      refine ⟨_, _, hr, ⟨⟨by simp, .inr ⟨w.heap.size, _, _, by simp, hbase, heap_alloc_new w.drew _, by simpa using hge, hcap, ?_, ?_⟩⟩, hwf⟩, ((UpX.refl _ _).drew).alloc _, ⟨.inr ⟨((Up.refl _).drew).alloc _, fun b hb => by simp [Value.ownBlock] at hb; omega⟩⟩⟩
      · simp [size_zeroCells, Value.cells]; omega
      · rw [hmap]
        simp only [Value.cells, zeroCells_one, Array.toList_append, List.length_replicate, List.map_nil, List.nil_append, Nat.mul_one]
        rw [List.take_left' (by simp)]
  · have hmul : xs.length * 1 = xs.length := Nat.mul_one _
    by_cases hroom : xs.length + n ≤ cap
    · have hr := run_append_room_zeros (P := P) w t tn ty e i (.int k 0) .i64 .i64 ht htn hi hz hsz rfl rfl g xs.length cap cur hg n hroom (by omega) (by simp only [maxLen] at hcm; omega) hnb
      rw [hmul] at htake
      refine ⟨_, _, hr, ⟨⟨by simp, .inr ⟨g, cap, _, by rw [hlen], hbg, setRow_heap w g cur _ e _ hg, by rw [hlen]; exact hroom, hcm, ?_, ?_⟩⟩, hwf⟩, ⟨rfl, rfl, rfl, by simp, fun b _ hne => setRow_other w g b _ (fun e => hne (by simp [Value.ownBlock, e]))⟩, ⟨.inl rfl⟩⟩
      · simp
        omega
      · rw [hmap, hlen, Nat.mul_one, htake]
        simp only
        rw [List.append_assoc, ← List.append_assoc, List.take_left' (by simp)]
    · have hold : (Builtin.firstCells i.size xs.length (.slice (some ⟨g, 0, none⟩) xs.length cap)).run P w.drew = .ok ((xs.map (Value.int k)).toArray) w.drew := by
        have := run_firstCells_some (P := P) w.drew i.size xs.length ⟨g, 0, none⟩ xs.length cap (xs.map (Value.int k)) (by rw [hsz]; simp) (by simpa using hown.row.cells (g := g) rfl)
        exact this
      have hr := Lib.run_append_grow_zeros (P := P) w t tn ty e i (.int k 0) .i64 .i64 ht htn hi hz (some ⟨g, 0, none⟩) xs.length cap (xs.map (Value.int k)) hold n (by omega) (by omega) (by omega) (by omega) hnb (growslice_fits (by omega) hb)
      have hcap : grownCap w (xs.length + n) cap e ≤ maxLen := grownCap_le_maxLen w _ cap e (by simp only [maxLen]; omega)
      have hge : xs.length + n ≤ grownCap w (xs.length + n) cap e := grownCap_ge w _ cap e
      refine ⟨_, _, hr, ⟨⟨by simp, .inr ⟨w.heap.size, _, _, by rw [hlen], hbase, heap_alloc_new w.drew _, by rw [hlen]; exact hge, hcap, ?_, ?_⟩⟩, hwf⟩, ((UpX.refl _ _).drew).alloc _, ⟨.inr ⟨((Up.refl _).drew).alloc _, fun b hb => by simp [Value.ownBlock] at hb; omega⟩⟩⟩
      · simp [size_zeroCells, Value.cells]; omega
      · rw [hmap, hlen, Nat.mul_one]
        simp only [Value.cells, zeroCells_one, Array.toList_append]
        rw [List.take_left' (by simp)]
theorem wpl_append_zeros {P : Program} {w : World} {ops : Array Oper} {rest : List Oper} {a : Act} {Q : Exit → Act → World → Prop} {dst : Option Tmp} {ty : TypeId} {pos : String} {after : Array Edge}
    {s x : Operand} {t tn : TypeId} (base e : Nat) (k : IntKind) (bytes : Nat) (ht : P.underlying t = some (.slice e)) (htn : P.underlying tn = some (.int .i64)) (hi : (P.info? e).map (fun i => (i.zero, i.size, i.bytes)) = some (some (.int k 0), 1, bytes))
    (v : Value) (xs : List Int) (hs : a.eval s = v) (hown : Own w base e k v xs) (n : Nat) (z : Int) (hx : a.eval x = .int .i64 z) (hzn : z = (n : Int)) (hb : (xs.length + n) * bytes ≤ 140737488355328) (hbytes : 1 ≤ bytes) (hbase : base ≤ w.heap.size)
    (h : ∀ v' w', Own w' base e k v' (xs ++ List.replicate n 0) → UpX (fun b => v.ownBlock = some b) w w' → Near w w' v v' → wpList P ops Q rest (a.put dst v') w') :
    wpList P ops Q ({ dst := dst, op := .call { callee := .builtin .append, args := #[s, x], argTypes := #[t, tn] }, type := ty, pos := pos, after := after, guard := none } :: rest) a w := by
  obtain ⟨i, hi, hz, hsz, hby⟩ := info_parts hi
  subst hzn
  refine wpList_plain rfl fun K hK => ?_
  obtain ⟨v', w', hrun, h2, h3, h4⟩ := run_append_own_zeros (P := P) w base t tn ty e i k ht htn hi hz hsz v xs hown n (by rw [hby]; exact hb) (by rw [hby]; exact hbytes) hbase
  unfold Oper.wp
  simp [execOp, resolve, invoke, builtin, hs, hx, hrun, Result.andThen]
  exact hK _ _ (h v' w' h2 h3 h4)
end Go.Proofs.Ytneliajeokajbaa
