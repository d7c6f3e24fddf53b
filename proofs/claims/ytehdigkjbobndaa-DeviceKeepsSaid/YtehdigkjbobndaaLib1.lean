/- Go's library on bytes: the walks of bytes.Equal, bytes.Clone, slices.Clone, slices.Grow, slices.Concat. -/
import Derived.Test.YtehdigkjbobndaaProg
import Derived.Test.YtehdigkjbobndaaBase
import Derived.Lib.AppendZeros
import Derived.Laws.BytesArg
namespace Go.Proofs.Ytehdigkjbobndaa
open Go.RowKit
set_option maxRecDepth 100000

theorem run_string_rd {P : Program} {w : World} {A : Option Addr} {c : Nat} {l : List Int} (h : Rd w .u8 A c l) {src e dst : TypeId} (hs : P.underlying src = some (.slice e)) (he : P.underlying e = some (.int .u8)) (hd : P.underlying dst = some .string) :
    (convert src dst (.slice A l.length c)).run P w = .ok (.string (strOfNums l)) w := by
  cases A with
  | none =>
    have h0 := h.non rfl
    have h1 := h.le
    have hl : l = [] := List.eq_nil_of_length_eq_zero (by omega)
    subst hl
    exact run_convert_bytes_nil w src e hs he _ _ dst hd
  | some ad =>
    have hl : (loadCells ad l.length).run P w = .ok (l.map (Value.int .u8)).toArray w := by
      have := run_loadCells_list (P := P) w ad (l.map (Value.int .u8)) (fun j v hj => by
        obtain ⟨hjl, rfl⟩ := List.getElem?_eq_some_iff.1 hj
        simp only [List.length_map] at hjl
        rw [h.cell ad rfl j hjl]
        simp [List.getD, List.getElem?_eq_getElem hjl])
      simpa using this
    rw [run_convert_bytes_string w src dst e _ _ c hs he hd, run_bytesToString w _ _ c l hl, foldl_push_bytes]
    simp [strOfNums, ByteArray.empty, ByteArray.emptyWithCapacity]
    rfl
theorem strOfNums_inj {l m : List Int} (hl : ∀ x ∈ l, 0 ≤ x ∧ x < 256) (hm : ∀ x ∈ m, 0 ≤ x ∧ x < 256) (h : strOfNums l = strOfNums m) : l = m := by
  have h2 := congrArg (fun s : ByteArray => s.data.toList) h
  simp only [strOfNums_data] at h2
  have hlen : l.length = m.length := by simpa using congrArg List.length h2
  refine List.ext_getElem hlen fun i h1 h3 => ?_
  have h4 := congrArg (fun s => s[i]?) h2
  simp only [List.getElem?_map, List.getElem?_eq_getElem h1, List.getElem?_eq_getElem h3, Option.map_some, Option.some.injEq] at h4
  have a1 := hl _ (List.getElem_mem h1)
  have a2 := hm _ (List.getElem_mem h3)
  have h5 := congrArg UInt8.toNat h4
  simp only [UInt8.toNat_ofNat'] at h5
  omega

theorem infoU8 : (Try.prog.info? 5).map (fun i => (i.zero, i.size, i.bytes)) = some (some (.int .u8 0), 1, 1) := by kernel_rfl

/-- A conversion whose run is known. -/
theorem wpl_convert {P : Program} {w : World} {ops : Array Oper} {rest : List Oper} {a : Act} {Q : Exit → Act → World → Prop} {dst : Option Tmp} {ty : TypeId} {pos : String} {after : Array Edge}
    {src t : TypeId} {x : Operand} (vx v : Value) (hx : a.eval x = vx) (hr : (convert src t vx).run P w = .ok v w)
    (h : wpList P ops Q rest (a.put dst v) w) :
    wpList P ops Q ({ dst := dst, op := .convert src t x, type := ty, pos := pos, after := after, guard := none } :: rest) a w := by
  refine wpList_plain rfl fun K hK => ?_
  unfold Oper.wp
  simp [execOp, hx, hr, Result.andThen]
  exact hK _ _ h

set_option maxHeartbeats 400000 in
theorem bytesEqual_calls (A B : Option Addr) (c d : Nat) (l m : List Int) (w : World) (h1 : Rd w .u8 A c l) (h2 : Rd w .u8 B d m) :
    Calls Try.prog 64 #[.slice A l.length c, .slice B m.length d] w fun e w' => e = .returned (.bool (decide (l = m))) ∧ w = w' := by
  go_enter Try.func64, Try.ntmps64
  go_wp2_with (first
    | (refine wpl_convert (src := 22) (t := 9) (.slice A l.length c) _ rfl (run_string_rd h1 Try.underlying22 Try.underlying5 Try.underlying9) ?_)
    | (refine wpl_convert (src := 22) (t := 9) (.slice B m.length d) _ rfl (run_string_rd h2 Try.underlying22 Try.underlying5 Try.underlying9) ?_))
  go_ret
  refine ⟨?_, rfl⟩
  have e : ((strOfNums l).toList == (strOfNums m).toList) = decide (l = m) := by
    by_cases h : l = m
    · simp [h]
    · have : ¬ (strOfNums l).toList = (strOfNums m).toList := fun e => h (strOfNums_inj h1.u8 h2.u8 (by
        have := congrArg List.toArray e
        cases hs : strOfNums l; cases ht : strOfNums m
        rw [hs, ht] at this
        simpa [ByteArray.toList_eq] using this))
      simp [h, this]
  show Ending.returned (Value.bool _) = _
  rw [← e]

theorem run_eql_nil {P : Program} (w : World) {t e : TypeId} (A : Option Addr) (l c : Nat) (h : P.underlying t = some (.slice e)) : (binOp .eql t (.slice A l c) (.slice none 0 0)).run P w = .ok (.bool A.isNone) w := Lib.run_eql_slice_nil w t e A l c _ _ h

set_option maxHeartbeats 400000 in
theorem bytesClone_calls (A : Option Addr) (c : Nat) (l : List Int) (w : World) (h1 : Rd w .u8 A c l) (hb : l.length ≤ 140737488355328) :
    Calls Try.prog 53 #[.slice A l.length c] w (RetOwn w 5 .u8 l) := by
  have he := fun (w : World) (A : Option Addr) (n c : Nat) => run_eql_nil (P := Try.prog) w A n c Try.underlying22
  cases A with
  | none =>
    have h0 := h1.non rfl
    have h2 := h1.le
    have hl : l = [] := List.eq_nil_of_length_eq_zero (by omega)
    subst hl
    go_enter Try.func53, Try.ntmps53
    go_wp2
    go_ret
    exact RetOwn.of (Own.nil _ _ _ _) (Up.refl _)
  | some ad =>
    have ho : Own (w.alloc (.cells #[] 5)) w.heap.size 5 .u8 (.slice (some ⟨w.heap.size, 0, none⟩) 0 0) [] := Own.lit w _ _ _ [] (Nat.le_refl _) (by simp) (by simp) 0 rfl _ rfl
    have hu := (Up.refl w).alloc (.cells #[] 5)
    go_enter Try.func53, Try.ntmps53
    go_wp2_with (refine wpl_append (t := 22) w.heap.size 5 .u8 1 Try.underlying22 infoU8 _ _ rfl ho (some ad) _ c l rfl rfl (h1.up hu) (by simpa using hb) (by decide) (by simp) ?_; intro v w2 hv hu2 _)
    go_ret
    exact RetOwn.of (by simpa using hv) (hu.thenx hu2 fun i hi e => by have e' : w.heap.size = i := Option.some.inj e; omega)

set_option maxHeartbeats 400000 in
theorem cloneBytes_calls (A : Option Addr) (c : Nat) (l : List Int) (w : World) (h1 : Rd w .u8 A c l) (hb : l.length ≤ 140737488355328) :
    Calls Try.prog 71 #[.slice A l.length c] w (RetOwn w 5 .u8 l) := by
  have he := fun (w : World) (A : Option Addr) (n c : Nat) => run_eql_nil (P := Try.prog) w A n c Try.underlying22
  cases A with
  | none =>
    have h0 := h1.non rfl
    have h2 := h1.le
    have hl : l = [] := List.eq_nil_of_length_eq_zero (by omega)
    subst hl
    go_enter Try.func71, Try.ntmps71
    go_wp2
    go_ret
    exact RetOwn.of (Own.nil _ _ _ _) (Up.refl _)
  | some ad =>
    have ho : Own (w.alloc (.cells #[] 5)) w.heap.size 5 .u8 (.slice (some ⟨w.heap.size, 0, none⟩) 0 0) [] := Own.lit w _ _ _ [] (Nat.le_refl _) (by simp) (by simp) 0 rfl _ rfl
    have hu := (Up.refl w).alloc (.cells #[] 5)
    go_enter Try.func71, Try.ntmps71
    go_wp2_with (refine wpl_append (t := 22) w.heap.size 5 .u8 1 Try.underlying22 infoU8 _ _ rfl ho (some ad) _ c l rfl rfl (h1.up hu) (by simpa using hb) (by decide) (by simp) ?_; intro v w2 hv hu2 _)
    go_ret
    exact RetOwn.of (by simpa using hv) (hu.thenx hu2 fun i hi e => by have e' : w.heap.size = i := Option.some.inj e; omega)

set_option maxHeartbeats 400000 in
theorem growBytes_nil (n : Nat) (w : World) (hn : n ≤ 140737488355328) :
    Calls Try.prog 74 #[.slice none 0 0, .int .i64 n] w (RetOwn w 5 .u8 []) := by
  by_cases h0 : n = 0
  · subst h0
    go_enter Try.func74, Try.ntmps74
    go_wp2
    go_ret
    exact RetOwn.of (Own.nil _ _ _ _) (Up.refl _)
  · have hp : 0 < n := by omega
    obtain ⟨i, hi, hz, hsz, hby⟩ := info_parts infoU8
    have hr := fun (w : World) => Lib.run_append_nil_zeros (P := Try.prog) w 22 3 22 5 i (.int .u8 0) .i64 .i64 Try.underlying22 Try.underlying3 hi hz n hp (by omega) (by omega) (by rw [hby]; omega)
    have hn1 : (0 : Int) < (n : Int) := by omega
    go_enter Try.func74, Try.ntmps74
    go_wp2_with (refine Lib.wpList_append_run _ rfl _ _ 22 3 rfl (.slice none 0 0) (.int .i64 n) rfl rfl _ _ (hr _) ?_)
    go_ret
    have hcap : grownCap w n 0 5 ≤ maxLen := grownCap_le_maxLen w n 0 5 (by simp only [maxLen]; omega)
    have hge : n ≤ grownCap w n 0 5 := grownCap_ge w n 0 5
    refine RetOwn.of ⟨?_, by simp⟩ (((Up.refl w).alloc _).drew)
    have := World.ownsRow_made (base := w.heap.size) (size := 1) (e := 5) w (Builtin.zeroCells #[Value.int .u8 0] n ++ Builtin.zeroCells #[Value.int .u8 0] (grownCap w n 0 5 - n)) (grownCap w n 0 5) (Nat.le_refl _) hcap (by simp [size_zeroCells]; omega)
    exact this.drew

theorem run_lss0 (a b : Nat) : decide ((a : Int) + b < 0) = false := by simp; omega

set_option maxHeartbeats 1000000 in
theorem concatBytes_calls (A : Option Addr) (c : Nat) (ls : List (List Int)) (w : World) (hl : RdL w .u8 A c ls) (hb : ls.flatten.length ≤ 140737488355328) :
    Calls Try.prog 62 #[.slice A ls.length c] w (RetOwn w 5 .u8 ls.flatten) := by
  have hlen := hl.len
  have HB := Lib.hid hb
  clear hb
  go_enter Try.func62, Try.ntmps62
  go_wp2
  go_loop [3, 5, 11] (fun n _ i => ∃ k m : Nat, k ≤ ls.length ∧ i = .int .i64 k ∧ n = .int .i64 m ∧ Hid (m = (ls.take k).flatten.length)) (fun _ _ i => ls.length - (intOf i).toNat)
  case atStart => exact ⟨0, 0, by omega, rfl, rfl, Lib.hid rfl⟩
  case round =>
    obtain ⟨k, m, hk, rfl, rfl, HM⟩ := hrel
    by_cases hlt : k < ls.length
    · obtain ⟨ad, l, A', c', rfl, hcell, hrd, HL⟩ := hl.get k hlt
      have hll := hrd.len
      have HS := Lib.hid (show (ls.take (k + 1)).flatten.length = (ls.take k).flatten.length + l.length by rw [take_succ_getD ls k [] hlt, HL.out]; simp)
      have hle : m + l.length ≤ 140737488355328 := by rw [HM.out, ← HS.out]; exact Nat.le_trans (flatten_take_le ls (k + 1)) HB.out
      go_wp2
      go_round
      case rel => exact ⟨k + 1, m + l.length, by omega, by go_num, by go_num, Lib.hid (by rw [HS.out, HM.out])⟩
      case measure => simp [intOf]; omega
    · obtain rfl : k = ls.length := by omega
      rw [List.take_length] at HM
      have hm : m ≤ 140737488355328 := by rw [HM.out]; exact HB.out
      go_wp2_with fail
      refine (growBytes_nil m _ hm).mono ?_
      rintro e w1 ⟨v, rfl, hv, hu1⟩
      have hl1 := hl.up hu1
      go_wp2_with fail
      go_loopw [6, 8, 27] (fun v _ i wr => ∃ k : Nat, k ≤ ls.length ∧ i = .int .i64 k ∧ Own wr w.heap.size 5 .u8 v (ls.take k).flatten ∧ Up w wr) (fun _ _ i _ => ls.length - (intOf i).toNat)
      case atStart => exact ⟨0, by omega, rfl, hv, hu1⟩
      case round =>
        obtain ⟨k, hk, rfl, hv, hu⟩ := hrel
        by_cases hlt : k < ls.length
        · obtain ⟨ad, l, A', c', rfl, hcell, hrd, HL⟩ := (hl.up hu).get k hlt
          have hll := hrd.len
          have HS := Lib.hid (show (ls.take (k + 1)).flatten = (ls.take k).flatten ++ l by rw [take_succ_getD ls k [] hlt, HL.out]; simp)
          have HBB := Lib.hid (show ((ls.take k).flatten.length + l.length) * 1 ≤ 140737488355328 by
            have h1 := flatten_take_le ls (k + 1)
            rw [HS.out, List.length_append] at h1
            have := HB.out
            omega)
          go_wp2_with (refine wpl_append (t := 22) w.heap.size 5 .u8 1 Try.underlying22 infoU8 _ _ rfl hv A' _ c' l rfl rfl hrd HBB.out (by decide) hu.size ?_; intro v2 w2 hv2 hu2 _)
          go_roundw
          case rel => exact ⟨k + 1, by omega, by go_num, by rw [HS.out]; exact hv2, hu.thenx hu2 fun i hi e => by have := (hv.lt i e).1; omega⟩
          case measure => simp [intOf]; omega
        · obtain rfl : k = ls.length := by omega
          rw [List.take_length] at hv
          go_wp2
          go_ret
          exact RetOwn.of hv hu

theorem bytesEqual_n {A B : Option Addr} {c d n m : Nat} {l k : List Int} {w : World} (h1 : Rd w .u8 A c l) (h2 : Rd w .u8 B d k) (hn : n = l.length) (hm : m = k.length) :
    Calls Try.prog 64 #[.slice A n c, .slice B m d] w fun e w' => e = .returned (.bool (decide (l = k))) ∧ w = w' := by
  subst hn hm
  exact bytesEqual_calls A B c d l k w h1 h2
theorem bytesClone_n {A : Option Addr} {c n : Nat} {l : List Int} {w : World} (h1 : Rd w .u8 A c l) (hb : l.length ≤ 140737488355328) (hn : n = l.length) :
    Calls Try.prog 53 #[.slice A n c] w (RetOwn w 5 .u8 l) := by
  subst hn
  exact bytesClone_calls A c l w h1 hb
theorem cloneBytes_n {A : Option Addr} {c n : Nat} {l : List Int} {w : World} (h1 : Rd w .u8 A c l) (hb : l.length ≤ 140737488355328) (hn : n = l.length) :
    Calls Try.prog 71 #[.slice A n c] w (RetOwn w 5 .u8 l) := by
  subst hn
  exact cloneBytes_calls A c l w h1 hb
theorem concatBytes_n {A : Option Addr} {c n : Nat} {ls : List (List Int)} {w : World} (h1 : RdL w .u8 A c ls) (hb : ls.flatten.length ≤ 140737488355328) (hn : n = ls.length) :
    Calls Try.prog 62 #[.slice A n c] w (RetOwn w 5 .u8 ls.flatten) := by
  subst hn
  exact concatBytes_calls A c ls w h1 hb
end Go.Proofs.Ytehdigkjbobndaa
