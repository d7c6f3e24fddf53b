/- Layer 3: the calls of a device, its blocks told; and where some blocks are to be left alone. -/
import Derived.Test.YtehdigkjbobndaaDevG
namespace Go.Proofs.Ytehdigkjbobndaa
open Go.RowKit

theorem devWrite_to (g : Nat) (S : Nat → Prop) (s : DSt) (w : World) (h : DevI w g S s) (no : Int) (A : Option Addr) (c n : Nat) (l : List Int) (hr : Rd w .u8 A c l) (hn : n = l.length) (hwr : s.wr < 1000000000000) (hA : ∀ ad, A = some ad → 0 < l.length → ¬ S ad.block) :
    Calls Try.prog 19 #[.pointer (some ⟨g, 0, none⟩), .int .i64 no, .slice A n c] w fun e w' => e = .returned (.int .i64 (devWriteR s no l)) ∧ DevTo w g S (devWriteS s no l) w' := by
  subst hn
  by_cases hb : devErr s no ≠ 0 ∨ l.length ≠ 256 ∨ useOk s = false
  · exact devWrite_bad g S s no A c l w h hr hb
  · have he : devErr s no = 0 := by
      rcases Int.decEq (devErr s no) 0 with h | h
      · exact absurd (.inl h) hb
      · exact h
    have hl : l.length = 256 := by
      rcases Nat.decEq l.length 256 with h | h
      · exact absurd (.inr (.inl h)) hb
      · exact h
    have hu : useOk s = true := by
      cases h : useOk s with
      | true => rfl
      | false => exact absurd (.inr (.inr h)) hb
    have hres : devWriteR s no l = 0 := by unfold devWriteR; rw [he, hl, hu]; simp
    rw [hres, hl]
    exact devWrite_ok g S s no A c l w h hr he hl hu hwr (fun ad e => hA ad e (by omega))
theorem devSync_to (g : Nat) (S : Nat → Prop) (s : DSt) (w : World) (h : DevI w g S s) (hsy : s.sy < 1000000000000) :
    Calls Try.prog 21 #[.pointer (some ⟨g, 0, none⟩)] w fun e w' => e = .returned (.int .i64 (syncR s)) ∧ DevTo w g S (syncS s) w' := by
  by_cases hb : s.off = true ∨ useOk s = false
  · have hr : syncR s = 9 := by unfold syncR; rw [if_pos hb]
    rw [hr]
    exact devSync_bad g S s w h hb
  · have hr : syncR s = 0 := by unfold syncR; rw [if_neg hb]
    rw [hr]
    have ho : s.off = false := by
      cases h : s.off with
      | false => rfl
      | true => exact absurd (.inl h) hb
    have hu : useOk s = true := by
      cases h : useOk s with
      | true => rfl
      | false => exact absurd (.inr h) hb
    exact devSync_ok g S s w h ho hu hsy
theorem devCrash_to (g : Nat) (S : Nat → Prop) (s : DSt) (w : World) (h : DevI w g S s) (B : Option Addr) (c n : Nat) (ks : List KeepS) (hk : KeepsR w B ks) (hn : n = ks.length) (hl : ks.length ≤ 1000) (hwr : s.wr < 1000000000000) (hB : ∀ ad, B = some ad → 0 < ks.length → ¬ S ad.block) :
    Calls Try.prog 23 #[.pointer (some ⟨g, 0, none⟩), .slice B n c] w fun e w' => e = .returned (.int .i64 (crashN s ks)) ∧ DevTo w g S (crashS s ks) w' := by
  subst hn
  exact (devCrash_calls g S s B c ks w h hk hB hl hwr).mono fun e w' ⟨h5, h6, h7⟩ => ⟨h5, S, h6, h7, fun b hb => .inl hb⟩
theorem devPower_to (g : Nat) (S : Nat → Prop) (s : DSt) (w : World) (h : DevI w g S s) :
    Calls Try.prog 24 #[.pointer (some ⟨g, 0, none⟩)] w fun e w' => e = .returned (.tuple #[]) ∧ DevTo w g S (powerS s) w' :=
  (devPower_calls g S s w h).mono fun _ _ ⟨h5, h6, h7⟩ => ⟨h5, S, h6, h7, fun _ hb => .inl hb⟩
theorem devArm_to (g : Nat) (S : Nat → Prop) (s : DSt) (w : World) (h : DevI w g S s) (x : Int) (hx : InK .i64 x) :
    Calls Try.prog 31 #[.pointer (some ⟨g, 0, none⟩), .int .i64 x] w fun e w' => e = .returned (.tuple #[]) ∧ DevTo w g S { s with armed := decide (0 ≤ x), left := x } w' :=
  (devArm_calls g S s x w h hx).mono fun _ _ ⟨h5, h6, h7⟩ => ⟨h5, S, h6, h7.mono fun _ _ e => by subst e; exact h.sg, fun _ hb => .inl hb⟩
def readS (s : DSt) (no : Int) : DSt := if devErr s no = 0 then { s with rd := s.rd + 1 } else s
def readL (s : DSt) (no : Int) : List Int := if devErr s no = 0 then devSees s no.toNat else []
/-- A page was read; the device's blocks are the same. -/
structure SeenT (w : World) (g : Nat) (S : Nat → Prop) (s : DSt) (no : Int) (en : Ending) (w' : World) : Prop where mk ::
  out : ∃ v, en = .returned (.tuple #[v, .int .i64 (devErr s no)]) ∧ Own w' w.heap.size 5 .u8 v (readL s no) ∧ DevI w' g S (readS s no) ∧ UpX (fun b => b = g) w w'
theorem devRead_to (g : Nat) (S : Nat → Prop) (s : DSt) (w : World) (h : DevI w g S s) (no : Int) (hrd : s.rd < 1000000000000) : Calls Try.prog 17 #[.pointer (some ⟨g, 0, none⟩), .int .i64 no] w (SeenT w g S s no) := by
  by_cases he : devErr s no = 0
  · obtain ⟨h4, h5, h6⟩ := devErr_zero he
    obtain ⟨i, rfl⟩ := Int.eq_ofNat_of_zero_le h5
    refine (devRead_ok g S s i w h h4 (by omega) hrd).mono fun e w' h => ?_
    obtain ⟨v, h7, h8, h9, h10⟩ := h.out
    refine ⟨v, by rw [he]; exact h7, by unfold readL; rw [if_pos he]; exact h8, by unfold readS; rw [if_pos he]; exact h9, h10⟩
  · refine (devRead_bad g S s no w h he).mono fun e w' ⟨h4, h5⟩ => ?_
    subst h5
    exact ⟨_, h4, by unfold readL; rw [if_neg he]; exact Own.nil _ _ _ _, by unfold readS; rw [if_neg he]; exact h, UpX.refl _ _⟩

/-- A device that leaves the blocks of N alone; its own ones lie below M. -/
structure DevN (N : Nat → Prop) (M : Nat) (w : World) (g : Nat) (s : DSt) : Prop where mk ::
  out : ∃ S, DevI w g S s ∧ ∀ b, S b → ¬ N b ∧ b < M
theorem DevTo.n {N : Nat → Prop} {M : Nat} {w w' : World} {g : Nat} {S : Nat → Prop} {s' : DSt} (h : DevTo w g S s' w') (hS : ∀ b, S b → ¬ N b ∧ b < M) (hN : ∀ b, N b → b < w.heap.size) : DevN N w'.heap.size w' g s' ∧ UpX (fun b => ¬ N b) w w' := by
  obtain ⟨S', h1, h2, h3⟩ := h.out
  refine ⟨⟨S', h1, fun b hb => ⟨fun hn => ?_, h1.lt b hb⟩⟩, h2.mono fun b _ hb => (hS b hb).1⟩
  rcases h3 b hb with h4 | h4
  · exact (hS b h4).1 hn
  · have := hN b hn; omega
theorem DevN.upx {N F : Nat → Prop} {M : Nat} {w w' : World} {g : Nat} {s : DSt} (h : DevN N M w g s) (hu : UpX F w w') (hF : ∀ b, F b → N b) : DevN N M w' g s := by
  obtain ⟨S, h1, h2⟩ := h.out
  exact ⟨S, h1.upx hu fun b hb hf => (h2 b hb).1 (hF b hf), h2⟩
theorem DevN.up {N : Nat → Prop} {M : Nat} {w w' : World} {g : Nat} {s : DSt} (h : DevN N M w g s) (hu : Up w w') : DevN N M w' g s := h.upx (hu.x fun _ => False) fun _ f => f.elim
theorem DevN.now {N : Nat → Prop} {M : Nat} {w : World} {g : Nat} {s : DSt} (h : DevN N M w g s) : DevN N w.heap.size w g s := by
  obtain ⟨S, h1, h2⟩ := h.out
  exact ⟨S, h1, fun b hb => ⟨(h2 b hb).1, h1.lt b hb⟩⟩
/-- All that is there but the device. -/
theorem DevI.n {w : World} {g : Nat} {S : Nat → Prop} {s : DSt} (h : DevI w g S s) : DevN (fun b => b < w.heap.size ∧ ¬ S b) w.heap.size w g s := ⟨S, h, fun b hb => ⟨fun hn => hn.2 hb, h.lt b hb⟩⟩
section
variable {N : Nat → Prop} {M : Nat} {w : World} {g : Nat} {s : DSt}
theorem DevN.write (h : DevN N M w g s) (hN : ∀ b, N b → b < w.heap.size) (no : Int) (A : Option Addr) (c n : Nat) (l : List Int) (hr : Rd w .u8 A c l) (hn : n = l.length) (hwr : s.wr < 1000000000000) (hA : ∀ ad, A = some ad → 0 < l.length → N ad.block ∨ M ≤ ad.block) :
    Calls Try.prog 19 #[.pointer (some ⟨g, 0, none⟩), .int .i64 no, .slice A n c] w fun e w' => e = .returned (.int .i64 (devWriteR s no l)) ∧ DevN N w'.heap.size w' g (devWriteS s no l) ∧ UpX (fun b => ¬ N b) w w' := by
  obtain ⟨S, h1, h2⟩ := h.out
  exact (devWrite_to g S s w h1 no A c n l hr hn hwr (fun ad e h0 hs => by
    have := h2 _ hs
    rcases hA ad e h0 with h | h
    · exact this.1 h
    · omega)).mono fun e w' ⟨h5, h6⟩ => ⟨h5, h6.n h2 hN⟩
theorem DevN.sync (h : DevN N M w g s) (hN : ∀ b, N b → b < w.heap.size) (hsy : s.sy < 1000000000000) :
    Calls Try.prog 21 #[.pointer (some ⟨g, 0, none⟩)] w fun e w' => e = .returned (.int .i64 (syncR s)) ∧ DevN N w'.heap.size w' g (syncS s) ∧ UpX (fun b => ¬ N b) w w' := by
  obtain ⟨S, h1, h2⟩ := h.out
  exact (devSync_to g S s w h1 hsy).mono fun e w' ⟨h5, h6⟩ => ⟨h5, h6.n h2 hN⟩
theorem DevN.crash (h : DevN N M w g s) (hN : ∀ b, N b → b < w.heap.size) (B : Option Addr) (c n : Nat) (ks : List KeepS) (hk : KeepsR w B ks) (hn : n = ks.length) (hl : ks.length ≤ 1000) (hwr : s.wr < 1000000000000) (hB : ∀ ad, B = some ad → 0 < ks.length → N ad.block ∨ M ≤ ad.block) :
    Calls Try.prog 23 #[.pointer (some ⟨g, 0, none⟩), .slice B n c] w fun e w' => e = .returned (.int .i64 (crashN s ks)) ∧ DevN N w'.heap.size w' g (crashS s ks) ∧ UpX (fun b => ¬ N b) w w' := by
  obtain ⟨S, h1, h2⟩ := h.out
  exact (devCrash_to g S s w h1 B c n ks hk hn hl hwr (fun ad e h0 hs => by
    have := h2 _ hs
    rcases hB ad e h0 with h | h
    · exact this.1 h
    · omega)).mono fun e w' ⟨h5, h6⟩ => ⟨h5, h6.n h2 hN⟩
theorem DevN.power (h : DevN N M w g s) (hN : ∀ b, N b → b < w.heap.size) :
    Calls Try.prog 24 #[.pointer (some ⟨g, 0, none⟩)] w fun e w' => e = .returned (.tuple #[]) ∧ DevN N w'.heap.size w' g (powerS s) ∧ UpX (fun b => ¬ N b) w w' := by
  obtain ⟨S, h1, h2⟩ := h.out
  exact (devPower_to g S s w h1).mono fun e w' ⟨h5, h6⟩ => ⟨h5, h6.n h2 hN⟩
theorem DevN.arm (h : DevN N M w g s) (hN : ∀ b, N b → b < w.heap.size) (x : Int) (hx : InK .i64 x) :
    Calls Try.prog 31 #[.pointer (some ⟨g, 0, none⟩), .int .i64 x] w fun e w' => e = .returned (.tuple #[]) ∧ DevN N w'.heap.size w' g { s with armed := decide (0 ≤ x), left := x } ∧ UpX (fun b => ¬ N b) w w' := by
  obtain ⟨S, h1, h2⟩ := h.out
  exact (devArm_to g S s w h1 x hx).mono fun e w' ⟨h5, h6⟩ => ⟨h5, h6.n h2 hN⟩
structure SeenN (N : Nat → Prop) (w : World) (g : Nat) (s : DSt) (no : Int) (en : Ending) (w' : World) : Prop where mk ::
  out : ∃ v, en = .returned (.tuple #[v, .int .i64 (devErr s no)]) ∧ Own w' w.heap.size 5 .u8 v (readL s no) ∧ DevN N w.heap.size w' g (readS s no) ∧ UpX (fun b => ¬ N b) w w'
theorem DevN.read (h : DevN N M w g s) (no : Int) (hrd : s.rd < 1000000000000) : Calls Try.prog 17 #[.pointer (some ⟨g, 0, none⟩), .int .i64 no] w (SeenN N w g s no) := by
  obtain ⟨S, h1, h2⟩ := h.out
  refine (devRead_to g S s w h1 no hrd).mono fun e w' h => ?_
  obtain ⟨v, h3, h4, h5, h6⟩ := h.out
  exact ⟨v, h3, h4, ⟨S, h5, fun b hb => ⟨(h2 b hb).1, h1.lt b hb⟩⟩, h6.mono fun b _ e => by subst e; exact (h2 b h1.sg).1⟩
end
end Go.Proofs.Ytehdigkjbobndaa
