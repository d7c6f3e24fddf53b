/- Layer 3: the chapter's example; a nil device (DeviceNil). -/
import Derived.Test.YtehdigkjbobndaaDevF
namespace Go.Proofs.Ytehdigkjbobndaa
open Go.RowKit
set_option maxRecDepth 100000

/-- A device of one's own, its blocks below M. -/
structure DevO (w0 : World) (M : Nat) (w : World) (g : Nat) (s : DSt) : Prop where mk ::
  out : ∃ S, DevI w g S s ∧ (∀ b, S b → w0.heap.size ≤ b ∧ b < M) ∧ Up w0 w
theorem DevTo.o {w0 w w' : World} {g : Nat} {S : Nat → Prop} {s' : DSt} (h : DevTo w g S s' w') (hS : ∀ b, S b → w0.heap.size ≤ b) (hu : Up w0 w) : DevO w0 w'.heap.size w' g s' := by
  obtain ⟨S', h1, h2, h3⟩ := h.out
  refine ⟨S', h1, fun b hb => ⟨?_, h1.lt b hb⟩, hu.thenx h2 fun i hi e => by have := hS i e; omega⟩
  rcases h3 b hb with h4 | h4
  · exact hS b h4
  · have := hu.size; omega
theorem DevO.up {w0 w w' : World} {M g : Nat} {s : DSt} (h : DevO w0 M w g s) (hu : Up w w') : DevO w0 M w' g s := by
  obtain ⟨S, h1, h2, h3⟩ := h.out
  exact ⟨S, h1.up hu, h2, h3.trans hu⟩
theorem DevO.w {w0 w : World} {M g : Nat} {s : DSt} (h : DevO w0 M w g s) : Up w0 w := by
  obtain ⟨S, h1, h2, h3⟩ := h.out
  exact h3
theorem DevO.of {w0 w w' : World} {g : Nat} {S : Nat → Prop} {s' : DSt} (hd : DevI w' g S s') (hS : ∀ b, S b → w0.heap.size ≤ b) (hu : Up w0 w) (hx : UpX S w w') : DevO w0 w'.heap.size w' g s' :=
  ⟨S, hd, fun b hb => ⟨hS b hb, hd.lt b hb⟩, hu.thenx hx fun i hi e => by have := hS i e; omega⟩
/-- A page is written, its bytes where the device isn't. -/
theorem DevO.write {w0 w : World} {M g : Nat} {s : DSt} (h : DevO w0 M w g s) (no : Int) (A : Option Addr) (c n : Nat) (l : List Int) (hr : Rd w .u8 A c l) (hn : n = l.length) (hwr : s.wr < 1000000000000) (hA : ∀ ad, A = some ad → 0 < l.length → M ≤ ad.block ∨ ad.block < w0.heap.size) :
    Calls Try.prog 19 #[.pointer (some ⟨g, 0, none⟩), .int .i64 no, .slice A n c] w fun e w' => e = .returned (.int .i64 (devWriteR s no l)) ∧ DevO w0 w'.heap.size w' g (devWriteS s no l) := by
  subst hn
  obtain ⟨S, h1, h2, h3⟩ := h.out
  by_cases hb : devErr s no ≠ 0 ∨ l.length ≠ 256 ∨ useOk s = false
  · exact (devWrite_bad g S s no A c l w h1 hr hb).mono fun e w' ⟨h5, h6⟩ => ⟨h5, h6.o (fun b hb => (h2 b hb).1) h3⟩
  · have he : devErr s no = 0 := by
      rcases Int.decEq (devErr s no) 0 with h | h
      · exact absurd (.inl h) hb
      · exact h
    have hl : l.length = 256 := by
      rcases Nat.decEq l.length 256 with h | h
      · exact absurd (.inr (.inl h)) hb
      · exact h
    have hu : useOk s = true := by
      cases h : useOk s with
      | true => rfl
      | false => exact absurd (.inr (.inr h)) hb
    have hres : devWriteR s no l = 0 := by unfold devWriteR; rw [he, hl, hu]; simp
    rw [hres, hl]
    exact (devWrite_ok g S s no A c l w h1 hr he hl hu hwr (fun ad e hs => by
      have := h2 _ hs
      rcases hA ad e (by omega) with h | h <;> omega)).mono fun e w' ⟨h5, h6⟩ => ⟨h5, h6.o (fun b hb => (h2 b hb).1) h3⟩
/-- What Sync answers. -/
theorem DevO.sync {w0 w : World} {M g : Nat} {s : DSt} (h : DevO w0 M w g s) (hsy : s.sy < 1000000000000) :
    Calls Try.prog 21 #[.pointer (some ⟨g, 0, none⟩)] w fun e w' => e = .returned (.int .i64 (syncR s)) ∧ DevO w0 w'.heap.size w' g (syncS s) := by
  obtain ⟨S, h1, h2, h3⟩ := h.out
  by_cases hb : s.off = true ∨ useOk s = false
  · have hr : syncR s = 9 := by unfold syncR; rw [if_pos hb]
    rw [hr]
    exact (devSync_bad g S s w h1 hb).mono fun e w' ⟨h5, h6⟩ => ⟨h5, h6.o (fun b hb => (h2 b hb).1) h3⟩
  · have hr : syncR s = 0 := by unfold syncR; rw [if_neg hb]
    rw [hr]
    have ho : s.off = false := by
      cases h : s.off with
      | false => rfl
      | true => exact absurd (.inl h) hb
    have hu : useOk s = true := by
      cases h : useOk s with
      | true => rfl
      | false => exact absurd (.inr h) hb
    exact (devSync_ok g S s w h1 ho hu hsy).mono fun e w' ⟨h5, h6⟩ => ⟨h5, h6.o (fun b hb => (h2 b hb).1) h3⟩
theorem DevO.crash {w0 w : World} {M g : Nat} {s : DSt} (h : DevO w0 M w g s) (B : Option Addr) (c n : Nat) (ks : List KeepS) (hk : KeepsR w B ks) (hn : n = ks.length) (hl : ks.length ≤ 1000) (hwr : s.wr < 1000000000000) (hB : ∀ ad, B = some ad → 0 < ks.length → M ≤ ad.block ∨ ad.block < w0.heap.size) :
    Calls Try.prog 23 #[.pointer (some ⟨g, 0, none⟩), .slice B n c] w fun e w' => e = .returned (.int .i64 (crashN s ks)) ∧ DevO w0 w'.heap.size w' g (crashS s ks) := by
  subst hn
  obtain ⟨S, h1, h2, h3⟩ := h.out
  exact (devCrash_calls g S s B c ks w h1 hk (fun ad e h0 hs => by
    have := h2 _ hs
    rcases hB ad e h0 with h | h <;> omega) hl hwr).mono fun e w' ⟨h5, h6, h7⟩ => ⟨h5, DevO.of h6 (fun b hb => (h2 b hb).1) h3 h7⟩
theorem DevO.power {w0 w : World} {M g : Nat} {s : DSt} (h : DevO w0 M w g s) :
    Calls Try.prog 24 #[.pointer (some ⟨g, 0, none⟩)] w fun e w' => e = .returned (.tuple #[]) ∧ DevO w0 w'.heap.size w' g (powerS s) := by
  obtain ⟨S, h1, h2, h3⟩ := h.out
  exact (devPower_calls g S s w h1).mono fun e w' ⟨h5, h6, h7⟩ => ⟨h5, DevO.of h6 (fun b hb => (h2 b hb).1) h3 h7⟩
theorem DevO.arm {w0 w : World} {M g : Nat} {s : DSt} (h : DevO w0 M w g s) (x : Int) (hx : InK .i64 x) :
    Calls Try.prog 31 #[.pointer (some ⟨g, 0, none⟩), .int .i64 x] w fun e w' => e = .returned (.tuple #[]) ∧ DevO w0 w'.heap.size w' g { s with armed := decide (0 ≤ x), left := x } := by
  obtain ⟨S, h1, h2, h3⟩ := h.out
  exact (devArm_calls g S s x w h1 hx).mono fun e w' ⟨h5, h6, h7⟩ => ⟨h5, DevO.of h6 (fun b hb => (h2 b hb).1) h3 (h7.mono fun b _ e => by subst e; exact h1.sg)⟩
/-- A page was read: the bytes lie in a slice of their own, behind what was there. -/
structure SeenO (w0 : World) (w : World) (g : Nat) (s : DSt) (no : Int) (en : Ending) (w' : World) : Prop where mk ::
  out : ∃ v, en = .returned (.tuple #[v, .int .i64 (devErr s no)]) ∧ Own w' w.heap.size 5 .u8 v (if devErr s no = 0 then devSees s no.toNat else []) ∧ DevO w0 w'.heap.size w' g (if devErr s no = 0 then { s with rd := s.rd + 1 } else s)
theorem DevO.read {w0 w : World} {M g : Nat} {s : DSt} (h : DevO w0 M w g s) (no : Int) (hrd : s.rd < 1000000000000) : Calls Try.prog 17 #[.pointer (some ⟨g, 0, none⟩), .int .i64 no] w (SeenO w0 w g s no) := by
  obtain ⟨S, h1, h2, h3⟩ := h.out
  by_cases he : devErr s no = 0
  · obtain ⟨h4, h5, h6⟩ := devErr_zero he
    obtain ⟨i, rfl⟩ := Int.eq_ofNat_of_zero_le h5
    refine (devRead_ok g S s i w h1 h4 (by omega) hrd).mono fun e w' h => ?_
    obtain ⟨v, h7, h8, h9, h10⟩ := h.out
    refine ⟨v, by rw [he]; exact h7, by rw [if_pos he]; exact h8, ?_⟩
    rw [if_pos he]
    exact DevO.of h9 (fun b hb => (h2 b hb).1) h3 (h10.mono fun b _ e => by subst e; exact h1.sg)
  · refine (devRead_bad g S s no w h1 he).mono fun e w' ⟨h4, h5⟩ => ?_
    subst h5
    refine ⟨_, h4, by rw [if_neg he]; exact Own.nil _ _ _ _, ?_⟩
    rw [if_neg he]
    exact ⟨S, h1, fun b hb => ⟨(h2 b hb).1, h1.lt b hb⟩, h3⟩
theorem DevMade.o {w0 w w' : World} {pg : List (List Int)} {en : Ending} (h : DevMade w pg en w') (hu : Up w0 w) : ∃ g, en = .returned (.tuple #[.pointer (some ⟨g, 0, none⟩), .int .i64 0]) ∧ DevO w0 w'.heap.size w' g (newS pg) := by
  obtain ⟨g, S, h1, h2, h3, h4⟩ := h.out
  exact ⟨g, h1, S, h2, fun b hb => ⟨by have := h4 b hb; have := hu.size; omega, h2.lt b hb⟩, hu.trans h3⟩
/-- Where an own slice lies. -/
theorem Own.blk {w : World} {base e : Nat} {k : IntKind} {B : Option Addr} {n c : Nat} {xs : List Int} (h : Own w base e k (.slice B n c) xs) : ∀ ad, B = some ad → base ≤ ad.block ∧ ad.block < w.heap.size := by
  intro ad e'
  subst e'
  rcases h.row.2 with ⟨h0, _⟩ | ⟨_, _, _, h0, _⟩
  · cases h0
  · injection h0 with h0 _ _
    injection h0 with h0
    subst h0
    exact h.lt _ rfl
theorem Own.plain {w : World} {base e : Nat} {k : IntKind} {ad : Addr} {n c : Nat} {xs : List Int} (h : Own w base e k (.slice (some ad) n c) xs) : ∃ b, ad = ⟨b, 0, none⟩ := by
  rcases h.row.2 with ⟨h0, _⟩ | ⟨b, _, _, h0, _⟩
  · cases h0
  · injection h0 with h0 _ _
    injection h0 with h0
    exact ⟨b, h0⟩
def k0S : DSt := newS (zeroPg 2)
def k1S : DSt := devWriteS k0S 1 (full [1, 1, 1])
def k2S : DSt := devWriteS k1S 1 (full [2, 2, 2])
def k3S : DSt := crashS k2S [⟨1, 1, 2⟩]
def k4S : DSt := powerS k3S
theorem k1R : devWriteR k0S 1 (full [1, 1, 1]) = 0 := by kernel_rfl
theorem k2R : devWriteR k1S 1 (full [2, 2, 2]) = 0 := by kernel_rfl
theorem k3N : crashN k2S [⟨1, 1, 2⟩] = 1 := by kernel_rfl
theorem k4L : devSees k4S 1 = [2, 2, 1] ++ List.replicate 253 0 := by kernel_rfl
theorem k4O : k4S.off = false := by kernel_rfl
theorem k4P : k4S.pg.length = 2 := by kernel_rfl
theorem k4D : k4S.rd = 0 := by kernel_rfl
theorem k1W : k1S.wr = 1 := by kernel_rfl
theorem k2W : k2S.wr = 2 := by kernel_rfl
theorem ks1 : KeepIn ⟨1, 1, 2⟩ := ⟨InK.of_i64 (by decide) (by decide), InK.of_i64 (by decide) (by decide), InK.of_i64 (by decide) (by decide)⟩
set_option maxHeartbeats 4000000 in
theorem known03_calls (w : World) : Calls Try.prog 13 #[] w fun e w' => e = .returned (.bool true) ∧ Up w w' := by
  have HN := Lib.hid (devNew_ok 2 w (by decide) (by decide))
  go_enter Try.func13, Try.ntmps13
  go_wp2_with fail
  refine (HN.out).mono ?_
  intro en w1 hm
  obtain ⟨g, rfl, hd⟩ := hm.o (Up.refl w)
  have HD := Lib.hid (show DevO w w1.heap.size w1 g k0S from hd)
  clear hd hm HN
  go_wp2_with fail
  have hua : Up w1 (w1.alloc (.cells #[.int .u8 1, .int .u8 1, .int .u8 1] 5)) := (Up.refl _).alloc _
  have hr1 : Rd (w1.alloc (.cells #[.int .u8 1, .int .u8 1, .int .u8 1] 5)) .u8 (some ⟨w1.heap.size, 0, none⟩) 3 [1, 1, 1] := Rd.block [1, 1, 1] (Blk.new w1 5 #[.int .u8 1, .int .u8 1, .int .u8 1]).out rfl rfl (by decide) (by intro x hx; simp at hx; subst hx; exact InK.of_u8 (by decide) (by decide))
  refine (law03Full_calls _ 3 [1, 1, 1] _ hr1).mono ?_
  rintro en w2 ⟨v, rfl, hv, hu2⟩
  obtain ⟨B, c, rfl, hr2⟩ := hv.rd
  have HD2 := Lib.hid ((HD.out.up hua).up hu2)
  have hB : ∀ ad, B = some ad → 0 < (full [1, 1, 1]).length → w1.heap.size ≤ ad.block ∨ ad.block < w.heap.size := fun ad e h0 => .inl (by have := (hv.blk ad e).1; simp at this; omega)
  have HW := Lib.hid (HD2.out.write 1 B c 256 (full [1, 1, 1]) hr2 (full_len _).symm (by decide) hB)
  rw [k1R, full_len] at *
  clear hr1 hv hr2 hB hua hu2 HD HD2
  go_wp2_with fail
  refine (HW.out).mono ?_
  rintro en w3 ⟨rfl, hd3⟩
  have HD := Lib.hid (show DevO w w3.heap.size w3 g k1S from hd3)
  clear hd3 HW
  go_wp2_with fail
  have hua : Up w3 (w3.alloc (.cells #[.int .u8 2, .int .u8 2, .int .u8 2] 5)) := (Up.refl _).alloc _
  have hr1 : Rd (w3.alloc (.cells #[.int .u8 2, .int .u8 2, .int .u8 2] 5)) .u8 (some ⟨w3.heap.size, 0, none⟩) 3 [2, 2, 2] := Rd.block [2, 2, 2] (Blk.new w3 5 #[.int .u8 2, .int .u8 2, .int .u8 2]).out rfl rfl (by decide) (by intro x hx; simp at hx; subst hx; exact InK.of_u8 (by decide) (by decide))
  refine (law03Full_calls _ 3 [2, 2, 2] _ hr1).mono ?_
  rintro en w4 ⟨v, rfl, hv, hu2⟩
  obtain ⟨B, c, rfl, hr2⟩ := hv.rd
  have HD2 := Lib.hid ((HD.out.up hua).up hu2)
  have hB : ∀ ad, B = some ad → 0 < (full [2, 2, 2]).length → w3.heap.size ≤ ad.block ∨ ad.block < w.heap.size := fun ad e h0 => .inl (by have := (hv.blk ad e).1; simp at this; omega)
  have HW := Lib.hid (HD2.out.write 1 B c 256 (full [2, 2, 2]) hr2 (full_len _).symm (by rw [k1W]; decide) hB)
  rw [k2R, full_len] at *
  clear hr1 hv hr2 hB hua hu2 HD HD2
  go_wp2_with fail
  refine (HW.out).mono ?_
  rintro en w5 ⟨rfl, hd5⟩
  have HD := Lib.hid (show DevO w w5.heap.size w5 g k2S from hd5)
  clear hd5 HW
  go_wp2_with fail
  have hua : Up w5 (w5.alloc (.cells #[.int .i64 1, .int .i64 1, .int .i64 2] 104)) := (Up.refl _).alloc _
  have hb6 := Blk.new w5 104 #[.int .i64 1, .int .i64 1, .int .i64 2]
  have hks : KeepsR (w5.alloc (.cells #[.int .i64 1, .int .i64 1, .int .i64 2] 104)) (some ⟨w5.heap.size, 0, none⟩) [⟨1, 1, 2⟩] := ⟨fun i x hx => by
    cases i with
    | zero =>
      simp only [List.getElem?_cons_zero, Option.some.injEq] at hx
      subst hx
      exact ⟨w5.heap.size, 0, rfl, hb6.cell 0, hb6.cell 1, hb6.cell 2⟩
    | succ i => simp at hx, fun x hx => by rw [List.mem_singleton.1 hx]; exact ks1⟩
  have HC := Lib.hid ((HD.out.up hua).crash (some ⟨w5.heap.size, 0, none⟩) 1 1 [⟨1, 1, 2⟩] hks rfl (by decide) (by rw [k2W]; decide) (fun ad e _ => .inl (by injection e with e; subst e; exact Nat.le_refl _)))
  rw [k3N] at HC
  clear hks hb6 hua HD
  refine (HC.out).mono ?_
  rintro en w6 ⟨rfl, hd6⟩
  have HP := Lib.hid ((show DevO w w6.heap.size w6 g k3S from hd6).power)
  clear hd6 HC
  go_wp2_with fail
  refine (HP.out).mono ?_
  rintro en w7 ⟨rfl, hd7⟩
  have HR := Lib.hid ((show DevO w w7.heap.size w7 g k4S from hd7).read 1 (by rw [k4D]; decide))
  clear hd7 HP
  go_wp2_with fail
  refine (HR.out).mono ?_
  intro en w8 hs
  obtain ⟨v, rfl, hv, hd⟩ := hs.out
  rw [show devErr k4S 1 = 0 by kernel_rfl] at *
  rw [if_pos rfl, show (1 : Int).toNat = 1 from rfl] at hv
  have f0 : (devSees k4S 1).getD 0 0 = 2 := by rw [k4L]; rfl
  have f1 : (devSees k4S 1).getD 1 0 = 2 := by rw [k4L]; rfl
  have f2 : (devSees k4S 1).getD 2 0 = 1 := by rw [k4L]; rfl
  have fl : (devSees k4S 1).length = 256 := by rw [k4L]; rfl
  obtain ⟨B, c, rfl, hr⟩ := hv.rd
  rw [fl]
  obtain ⟨a0, x0, rfl, hc0, hx0, _⟩ := hr.get 0 (by rw [fl]; decide)
  obtain ⟨_, x1, e1, hc1, hx1, _⟩ := hr.get 1 (by rw [fl]; decide)
  obtain ⟨_, x2, e2, hc2, hx2, _⟩ := hr.get 2 (by rw [fl]; decide)
  obtain rfl := Option.some.inj e1
  obtain rfl := Option.some.inj e2
  obtain rfl : x0 = 2 := hx0.out.symm.trans f0
  obtain rfl : x1 = 2 := hx1.out.symm.trans f1
  obtain rfl : x2 = 1 := hx2.out.symm.trans f2
  obtain ⟨gb, rfl⟩ := hv.plain
  rw [add_lit0] at hc0 hc1 hc2
  clear f0 f1 f2 fl e1 e2
  have HU := Lib.hid hd.w
  clear hd hv hr hs HR hx0 hx1 hx2
  go_wp2_with fail
  go_ret
  exact ⟨rfl, HU.out⟩
set_option maxHeartbeats 4000000 in
theorem lawDeviceNil_calls (no : Int) (A : Option Addr) (c : Nat) (b : List Int) (w : World) (_ : InK .i64 no) (_ : Rd w .u8 A c b) :
    Calls Try.prog 6 #[.int .i64 no, .slice A b.length c] w fun e w' => e = .returned (.bool true) ∧ Up w w' := by
  have hnot : ∀ (x : Bool) (w : World), (Op.unary .not (.bool x)).run Try.prog w = .ok (.bool (!x)) w := fun _ _ => rfl
  go_enter Try.func6, Try.ntmps6
  go_wp2_with fail
  refine (devPower_nil w).mono ?_
  rintro en w1 ⟨rfl, rfl⟩
  go_wp2_with fail
  refine (devArm_nil no w1).mono ?_
  rintro en w1 ⟨rfl, rfl⟩
  go_wp2_with fail
  refine (devRead_nil no w1).mono ?_
  rintro en w1 ⟨rfl, rfl⟩
  go_wp2_with fail
  refine (devCounts_nil w1).mono ?_
  rintro en w1 ⟨rfl, rfl⟩
  go_wp2_with fail
  refine (known03_calls w1).mono ?_
  rintro en w2 ⟨rfl, hu2⟩
  go_wp2_with fail
  refine (devWrite_nil no A b.length c w2).mono ?_
  rintro en w3 ⟨rfl, rfl⟩
  go_wp2_with fail
  refine (devSync_nil w3).mono ?_
  rintro en w3 ⟨rfl, rfl⟩
  go_wp2_with fail
  refine (devCrash_nil none 0 0 w3).mono ?_
  rintro en w3 ⟨rfl, rfl⟩
  go_wp2_with fail
  refine (devOn_nil w3).mono ?_
  rintro en w3 ⟨rfl, rfl⟩
  go_wp2_with fail
  refine (devWaiting_nil w3).mono ?_
  rintro en w3 ⟨rfl, rfl⟩
  go_wp2_with fail
  refine (devPages_nil w3).mono ?_
  rintro en w3 ⟨rfl, rfl⟩
  go_wp2_with fail
  refine (devImage_nil w3).mono ?_
  rintro en w3 ⟨rfl, rfl⟩
  go_wp2_with fail
  go_ret
  exact ⟨rfl, hu2⟩
end Go.Proofs.Ytehdigkjbobndaa
