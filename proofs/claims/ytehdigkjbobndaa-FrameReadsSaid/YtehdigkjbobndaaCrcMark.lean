/- Marked bytes: the walks of crc.low, Mark, Holds, Turn. -/
import Derived.Test.YtehdigkjbobndaaCrcSum
import Derived.Test.YtehdigkjbobndaaLib1
import Derived.Deep.RegionHeld3
namespace Go.Proofs.Ytehdigkjbobndaa
open Go.RowKit
set_option maxRecDepth 100000

set_option maxHeartbeats 400000 in
theorem crcLow_calls (n : Nat) (w : World) (hn : n < 4294967296) :
    Calls Try.prog 69 #[.int .u32 n] w (RetOwn w 5 .u8 (low4 n)) := by
  go_enter Try.func69, Try.ntmps69
  go_wp2
  go_ret
  refine RetOwn.of (Own.lit w _ _ _ _ (Nat.le_refl _) (by simp [low4]) (low4_wf n) _ rfl _ ?_) ((Up.refl _).alloc _)
  simp [low4]
  omega

def marked (l : List Int) : List Int := l ++ low4 (CrcPlain.crc l)

set_option maxHeartbeats 400000 in
theorem crcMark_calls (A : Option Addr) (c : Nat) (l : List Int) (w : World) (h1 : Rd w .u8 A c l) (hb : l.length ≤ 140737488355000) :
    Calls Try.prog 45 #[.slice A l.length c] w (RetOwn w 5 .u8 (marked l)) := by
  have hu0 := (Up.refl w).alloc (.cells #[.slice A l.length c] 22)
  have HC := Lib.hid (CrcPlain.crc_lt l h1.u8)
  go_enter Try.func45, Try.ntmps45
  go_wp2_with fail
  refine (crcSum_calls _ 1 [l] _ (RdL.one rfl ((Blk.new w _ _).cell 0) rfl (h1.up hu0)) (by simpa using by omega)).mono ?_
  rintro e w1 ⟨rfl, hu1⟩
  simp only [List.flatten_cons, List.flatten_nil, List.append_nil]
  go_wp2_with fail
  refine (crcLow_calls _ _ HC.out).mono ?_
  rintro e w2 ⟨v, rfl, hv, hu2⟩
  obtain ⟨B, d, rfl, hd⟩ := hv.rd
  have hu3 := (Up.refl w2).alloc (.cells #[.slice A l.length c, .slice B (low4 (CrcPlain.crc l)).length d] 22)
  have hU := hu0.trans (hu1.trans (hu2.trans hu3))
  have hvs : Vals (fun _ => True) (w2.alloc (.cells #[.slice A l.length c, .slice B (low4 (CrcPlain.crc l)).length d] 22)) .u8 [.slice A l.length c, .slice B (low4 (CrcPlain.crc l)).length d] [l, low4 (CrcPlain.crc l)] :=
    ((Vals.nil _ _ _).snoc (h1.up hU) rfl fun _ _ _ => trivial).snoc (hd.up hu3) rfl fun _ _ _ => trivial
  have hL := (RdLF.block (Blk.new w2 22 _).out trivial hvs (n := 2) rfl (by simp)).rd
  go_wp2_with fail
  refine (concatBytes_calls _ 2 [l, low4 (CrcPlain.crc l)] _ hL (by simp [low4]; omega)).mono ?_
  rintro e w3 ⟨v3, rfl, hv3, hu4⟩
  go_wp2
  go_ret
  simp only [List.flatten_cons, List.flatten_nil, List.append_nil] at hv3
  exact RetOwn.of (hv3.mono hU.size) (hU.trans hu4)

theorem crcMark_n {A : Option Addr} {c n : Nat} {l : List Int} {w : World} (h1 : Rd w .u8 A c l) (hb : l.length ≤ 140737488355000) (hn : n = l.length) :
    Calls Try.prog 45 #[.slice A n c] w (RetOwn w 5 .u8 (marked l)) := by
  subst hn
  exact crcMark_calls A c l w h1 hb

set_option maxHeartbeats 400000 in
theorem crcHolds_short (A : Option Addr) (c : Nat) (l : List Int) (w : World) (_ : Rd w .u8 A c l) (hs : l.length < 4) :
    Calls Try.prog 65 #[.slice A l.length c] w fun e w' => e = .returned (.bool false) ∧ Up w w' := by
  have hneg : decide (4 ≤ (l.length : Int)) = false := by simp; omega
  go_enter Try.func65, Try.ntmps65
  go_wp2
  go_quiet (fail)
  go_wp2
  go_ret
  exact ⟨rfl, (Up.refl _).drewN _⟩

def holds (l : List Int) : Bool := decide (4 ≤ l.length) && decide (l.drop (l.length - 4) = low4 (CrcPlain.crc (l.take (l.length - 4))))

set_option maxHeartbeats 1000000 in
theorem crcHolds_long (A : Option Addr) (c : Nat) (l : List Int) (w : World) (h1 : Rd w .u8 A c l) (hs : 4 ≤ l.length) (hb : l.length ≤ 140737488355328) :
    Calls Try.prog 65 #[.slice A l.length c] w fun e w' => e = .returned (.bool (holds l)) ∧ Up w w' := by
  obtain ⟨m, hm, hml, Hm⟩ : ∃ m : Nat, (l.length : Int) - 4 = (m : Int) ∧ (m : Int) ≤ (l.length : Int) ∧ Hid (m = l.length - 4) := ⟨l.length - 4, by omega, by omega, Lib.hid rfl⟩
  have hle := h1.le
  have hmc : (m : Int) ≤ (c : Int) := by omega
  have h2 : Rd w .u8 A c (l.take m) := h1.take m
  have h3 : Rd w .u8 (A.map (·.add m)) (c - m) (l.drop m) := by
    have := h1.drop_ m (by omega)
    rwa [if_neg (by omega)] at this
  have Hl2 := Lib.hid (show (l.take m).length = m by rw [List.length_take]; omega)
  have Hl3 := Lib.hid (show (l.drop m).length = l.length - m by rw [List.length_drop])
  have hu0 := ((Up.refl w).alloc (.cells #[.slice A m c] 22)).drew
  have HC := Lib.hid (CrcPlain.crc_lt (l.take m) h2.u8)
  have HR : RdL (w.alloc (.cells #[.slice A m c] 22)).drew .u8 (some ⟨w.heap.size, 0, none⟩) 1 [l.take m] := RdL.one rfl ((Blk.new w _ _).cell 0) Hl2.out.symm (h2.up hu0)
  go_enter Try.func65, Try.ntmps65
  go_wp2
  go_region_held3 (fun _ => True) (trivial) ((first
    | (go_at_call 70
       refine (crcSum_n HR (by have := Hl2.out; simp; omega) rfl).mono ?_
       rintro e w1 ⟨rfl, hu1⟩
       simp only [List.flatten_cons, List.flatten_nil, List.append_nil])
    | (go_at_call 69
       refine (crcLow_calls _ _ HC.out).mono ?_
       rintro e w2 ⟨v, rfl, hv, hu2⟩
       obtain ⟨B, d, rfl, hd⟩ := hv.rd)
    | (go_at_call 64
       refine (bytesEqual_n (h3.up (hu0.trans (hu1.trans hu2))) hd Hl3.out.symm rfl).mono ?_
       rintro e w3 ⟨rfl, rfl⟩)))
  go_wp2
  go_ret
  refine ⟨?_, hu0.trans (hu1.trans hu2)⟩
  show Ending.returned (.bool _) = .returned (.bool _)
  unfold holds
  rw [← Hm.out, decide_eq_true hs, Bool.true_and]

theorem crcHolds_n {A : Option Addr} {c n : Nat} {l : List Int} {w : World} (h1 : Rd w .u8 A c l) (hb : l.length ≤ 140737488355328) (hn : n = l.length) :
    Calls Try.prog 65 #[.slice A n c] w fun e w' => e = .returned (.bool (holds l)) ∧ Up w w' := by
  subst hn
  by_cases hs : 4 ≤ l.length
  · exact crcHolds_long A c l w h1 hs hb
  · refine (crcHolds_short A c l w h1 (by omega)).mono fun e w' ⟨he, hu⟩ => ⟨?_, hu⟩
    rw [he]
    unfold holds
    rw [decide_eq_false hs]
    rfl

/-- A byte turned. -/
def turned (l : List Int) (at_ by_ : Int) : List Int := if 0 ≤ at_ ∧ at_ < l.length then l.set at_.toNat (((l.getD at_.toNat 0).toNat ^^^ by_.toNat : Nat) : Int) else l

set_option maxHeartbeats 400000 in
theorem crcTurn_n {A : Option Addr} {c n : Nat} {l : List Int} {w : World} {i b : Int} (h1 : Rd w .u8 A c l) (hb : l.length ≤ 140737488355328) (hn : n = l.length) (hi : InK .i64 i) (hy : InK .u8 b) :
    Calls Try.prog 50 #[.slice A n c, .int .i64 i, .int .u8 b] w (RetOwn w 5 .u8 (turned l i b)) := by
  subst hn
  obtain ⟨hi1, hi2⟩ := hi.i64
  obtain ⟨hy1, hy2⟩ := hy.u8
  go_enter Try.func50, Try.ntmps50
  go_wp2_with fail
  refine (cloneBytes_n h1 hb rfl).mono ?_
  rintro e w1 ⟨v, rfl, hv, hu⟩
  by_cases h0 : 0 ≤ i
  · by_cases hl : i < (l.length : Int)
    · obtain ⟨k, rfl⟩ := Int.eq_ofNat_of_zero_le h0
      have hk : k < l.length := by omega
      obtain ⟨g, cap, rfl, hbg, hc, hf, hst⟩ := hv.store k hk
      have hx := hv.rd
      obtain ⟨hx1, hx2⟩ := (h1.range k hk).u8
      have HT := Lib.hid (show turned l k b = l.set k (((l.getD k 0).toNat ^^^ b.toNat : Nat) : Int) by unfold turned; rw [if_pos ⟨h0, hl⟩]; rfl)
      have hxor : bits .xor .u8 (l.getD k 0) b = (((l.getD k 0).toNat ^^^ b.toNat : Nat) : Int) := u8_xor _ b hx1 hx2 hy1 hy2
      have hw := hst (((l.getD k 0).toNat ^^^ b.toNat : Nat) : Int) (InK.of_u8 (by omega) (by
        have := Nat.xor_lt_two_pow (n := 8) (x := (l.getD k 0).toNat) (y := b.toNat) (by omega) (by omega)
        omega))
      generalize l.getD k 0 = x at *
      generalize ((x.toNat ^^^ b.toNat : Nat) : Int) = z at *
      go_wp2
      go_ret
      rw [HT.out]
      exact RetOwn.of hw (hu.setCell hbg _)
    · have hd : decide (i < (l.length : Int)) = false := by simpa using hl
      have HT := Lib.hid (show turned l i b = l by unfold turned; rw [if_neg (by omega)])
      obtain ⟨B, d, rfl, _⟩ := hv.rd
      go_wp2
      go_ret
      rw [HT.out]
      exact RetOwn.of hv hu
  · have hd : decide (0 ≤ i) = false := by simpa using h0
    have HT := Lib.hid (show turned l i b = l by unfold turned; rw [if_neg (by omega)])
    obtain ⟨B, d, rfl, _⟩ := hv.rd
    go_wp2
    go_ret
    rw [HT.out]
    exact RetOwn.of hv hu
end Go.Proofs.Ytehdigkjbobndaa
