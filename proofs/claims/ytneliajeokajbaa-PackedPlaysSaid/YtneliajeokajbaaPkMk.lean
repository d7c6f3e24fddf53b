/- Layer 12: New. -/
import Derived.Test.YtneliajeokajbaaPkAdd
namespace Go.Proofs.Ytneliajeokajbaa
open Go.RowKit
set_option maxRecDepth 100000

/-- What New answers. -/
structure NewPk (w : World) (width : Int) (m : List Int) (en : Ending) (w' : World) : Prop where mk ::
  up : Up w w'
  out : (rightW width = false ∧ en = .returned (.tuple #[.pointer none, .int .i64 1])) ∨
    (rightW width = true ∧ fitB width.toNat m = false ∧ en = .returned (.tuple #[.pointer none, .int .i64 10])) ∨
    (rightW width = true ∧ fitB width.toNat m = true ∧ 65536 < m.length ∧ en = .returned (.tuple #[.pointer none, .int .i64 2])) ∨
    (rightW width = true ∧ fitB width.toNat m = true ∧ m.length ≤ 65536 ∧ ∃ g ws, en = .returned (.tuple #[.pointer (some ⟨g, 0, none⟩), .int .i64 0]) ∧ w.heap.size ≤ g ∧ PArr w' g w.heap.size width.toNat m.length ws ∧ PkOk width.toNat m.length ws m)

theorem Rd.below {w : World} {k : IntKind} {A : Option Addr} {c : Nat} {xs : List Int} (h : Rd w k A c xs) : ∀ ad, A = some ad → 0 < xs.length → ad.block < w.heap.size := fun ad e h0 => World.block_lt_of_cell? w (ad.add 0) (h.cell ad e 0 h0)

set_option maxHeartbeats 1000000 in
theorem packedNew_calls (width : Int) (B : Option Addr) (d : Nat) (m : List Int) (w : World) (hm : Rd w .i64 B d m) :
    Calls Try.prog 40 #[.int .i64 width, .slice B m.length d] w (NewPk w width m) := by
  cases hr : rightW width with
  | false =>
    have HR := Lib.hid hr
    clear hr
    go_enter Try.func40, Try.ntmps40
    go_wp2_with fail
    refine (packedRight_calls width w).mono ?_
    rw [HR.out]
    rintro e w' ⟨rfl, rfl⟩
    go_wp2_with fail
    go_ret2
    exact ⟨Up.refl _, .inl ⟨HR.out, rfl⟩⟩
  | true =>
    have hr12 : 1 ≤ width ∧ width ≤ 31 := by unfold rightW at hr; simpa using hr
    obtain ⟨W, rfl⟩ := Int.eq_ofNat_of_zero_le (show 0 ≤ width by omega)
    have HR := Lib.hid hr
    have HB := Lib.hid hm.below
    clear hr
    go_enter Try.func40, Try.ntmps40
    go_wp2_with fail
    refine (packedRight_calls W w).mono ?_
    rw [HR.out]
    rintro e w' ⟨rfl, rfl⟩
    go_wp2_with fail
    have hA : Up w (w.alloc (.cells #[.int .i64 W, .int .i64 0, .slice none 0 0] 119)) := (Up.refl _).alloc _
    have hb0 : Blk (w.alloc (.cells #[.int .i64 W, .int .i64 0, .slice none 0 0] 119)) w.heap.size 119 #[.int .i64 W, .int .i64 0, .slice none 0 0] := Blk.new w _ _
    have hmA := hm.up hA
    have hsz : (w.alloc (.cells #[.int .i64 W, .int .i64 0, .slice none 0 0] 119)).heap.size = w.heap.size + 1 := by simp
    generalize (w.alloc (.cells #[.int .i64 W, .int .i64 0, .slice none 0 0] 119)) = w1 at *
    refine (packedAdd_calls w.heap.size (w.heap.size + 1) W 0 [] [] m none 0 B d w1 hb0 (Own.nil _ _ _ _) (PkOk.nil W) (by omega) (by omega) (by omega) (by omega) hmA (fun ad e h0 => by have := HB.out ad e h0; omega)).mono ?_
    rintro e w2 ⟨hu2, hp⟩
    have hU : Up w w2 := hA.thenx hu2 fun i hi e => by omega
    rcases hp with ⟨hf, rfl, _⟩ | ⟨hf, hl, rfl, _⟩ | ⟨hf, hl, rfl, ws, hpa, hok⟩
    · have HF := Lib.hid hf
      clear hf
      go_wp2_with fail
      go_ret2
      exact ⟨hU, .inr (.inl ⟨HR.out, HF.out, rfl⟩)⟩
    · have HF := Lib.hid hf
      clear hf
      have HL := Lib.hid hl
      clear hl
      go_wp2_with fail
      go_ret2
      exact ⟨hU, .inr (.inr (.inl ⟨HR.out, HF.out, by have := HL.out; omega, rfl⟩))⟩
    · have HF := Lib.hid hf
      clear hf
      go_wp2_with fail
      go_ret2
      rw [Nat.zero_add] at hpa hok hl
      obtain ⟨A, c, h1, h2⟩ := hpa
      exact ⟨hU, .inr (.inr (.inr ⟨HR.out, HF.out, hl, w.heap.size, ws, rfl, Nat.le_refl _, ⟨A, c, h1, h2.mono (by omega)⟩, hok⟩))⟩
end Go.Proofs.Ytneliajeokajbaa
