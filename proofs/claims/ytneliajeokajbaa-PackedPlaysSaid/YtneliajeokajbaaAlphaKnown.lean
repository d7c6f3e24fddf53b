/- Layer 14: the chapter's example. -/
import Derived.Test.YtneliajeokajbaaAlphaNew
import Derived.Test.YtneliajeokajbaaAlphaMap
namespace Go.Proofs.Ytneliajeokajbaa
open Go.RowKit
set_option maxRecDepth 100000

theorem tsyms_mem (t : List Int) (n : Nat) (x : Int) : x ∈ tsyms t n ↔ ∃ s : Nat, s < n ∧ x = s ∧ 0 < cnt t s := by
  unfold tsyms
  simp only [List.mem_filter, List.mem_map, List.mem_range, decide_eq_true_eq]
  constructor
  · rintro ⟨⟨s, hs, rfl⟩, h⟩; exact ⟨s, hs, rfl, h⟩
  · rintro ⟨s, hs, rfl, h⟩; exact ⟨⟨s, hs, rfl⟩, h⟩
/-- Rising strictly. -/
def Rising (l : List Int) : Prop := ∀ a b, a < b → b < l.length → l.getD a 0 < l.getD b 0
theorem Rising.srt {l : List Int} (h : Rising l) : Srt l := fun a b h1 h2 => Int.le_of_lt (h a b h1 h2)
theorem Rising.snoc {l : List Int} {x : Int} (h : Rising l) (hx : ∀ y ∈ l, y < x) : Rising (l ++ [x]) := by
  intro a b hab hb
  simp only [List.length_append, List.length_singleton] at hb
  have ha : a < l.length := by omega
  have e1 : (l ++ [x]).getD a 0 = l.getD a 0 := by simp [List.getD_eq_getElem?_getD, List.getElem?_append_left ha]
  rw [e1]
  rcases Nat.lt_or_ge b l.length with h1 | h1
  · have e2 : (l ++ [x]).getD b 0 = l.getD b 0 := by simp [List.getD_eq_getElem?_getD, List.getElem?_append_left h1]
    rw [e2]
    exact h a b hab h1
  · have : b = l.length := by omega
    subst this
    have e2 : (l ++ [x]).getD l.length 0 = x := by simp [List.getD_eq_getElem?_getD]
    rw [e2]
    refine hx _ ?_
    rw [List.getD_eq_getElem?_getD, List.getElem?_eq_getElem ha]
    exact List.getElem_mem ha
theorem tsyms_rising (t : List Int) (n : Nat) : Rising (tsyms t n) := by
  induction n with
  | zero => intro a b _ hb; simp [tsyms] at hb
  | succ n ih =>
    rw [tsyms_succ]
    split
    · refine ih.snoc fun y hy => ?_
      obtain ⟨s, hs, rfl, _⟩ := (tsyms_mem t n y).1 hy
      omega
    · rw [List.append_nil]; exact ih

theorem rdl_two (w : World) (A B : Option Addr) (c d : Nat) (l m : List Int) (e g : Nat) (arr : Array Value) (hg : w.heap[g]? = some (.cells arr e (0, 0))) (ha : arr = #[.slice A l.length c, .slice B m.length d]) (h1 : Rd w .u8 A c l) (h2 : Rd w .u8 B d m) : RdL w .u8 (some ⟨g, 0, none⟩) 2 [l, m] := by
  subst ha
  refine (RdLF.block (F := fun _ => True) (ls := [l, m]) hg trivial ?_ rfl (by simp)).rd
  exact ((Vals.nil (fun _ => True) w .u8).snoc h1 rfl fun _ _ _ => trivial).snoc h2 rfl fun _ _ _ => trivial

theorem rd_lit (w : World) (e : Nat) (k : IntKind) (l : List Int) (hl : l.length ≤ 9223372036854775807) (hwf : ∀ x ∈ l, InK k x) (arr : Array Value) (ha : arr = (l.map (Value.int k)).toArray) (n : Nat) (hn : n = l.length) : Rd (w.alloc (.cells arr e)) k (some ⟨w.heap.size, 0, none⟩) n l :=
  Rd.block l (Blk.new w e arr).out ha hn hl hwf
theorem wf_all {l : List Int} (h : l.all (fun x => decide (-9223372036854775808 ≤ x) && decide (x ≤ 9223372036854775807)) = true) : ∀ x ∈ l, InK .i64 x := fun x hx => by
  have := List.all_eq_true.1 h x hx
  simp only [Bool.and_eq_true, decide_eq_true_eq] at this
  exact InK.of_i64 this.1 this.2
theorem wf_all8 {l : List Int} (h : l.all (fun x => decide (0 ≤ x) && decide (x < 256)) = true) : ∀ x ∈ l, InK .u8 x := fun x hx => by
  have := List.all_eq_true.1 h x hx
  simp only [Bool.and_eq_true, decide_eq_true_eq] at this
  exact InK.of_u8 this.1 this.2

theorem known14_codes (ms : List Int) (hl : ms.length = 5) (hR : ∀ i, i < 5 → 0 ≤ ms.getD i 0 ∧ ms.getD i 0 < 4 ∧ [(0 : Int), 1, 99, 100].getD (ms.getD i 0).toNat 0 = [99, 100, 1, 1, 0].getD i 0) : ms = [2, 3, 1, 1, 0] := by
  have key : ∀ x y : Int, 0 ≤ x → x < 4 → [(0 : Int), 1, 99, 100].getD x.toNat 0 = y → (x = 0 ∧ y = 0) ∨ (x = 1 ∧ y = 1) ∨ (x = 2 ∧ y = 99) ∨ (x = 3 ∧ y = 100) := by
    intro x y h0 h4 h
    have : x = 0 ∨ x = 1 ∨ x = 2 ∨ x = 3 := by omega
    rcases this with rfl | rfl | rfl | rfl <;> simp at h <;> omega
  match ms, hl with
  | [a, b, c, d, e], _ =>
    have h0 := hR 0 (by omega); have h1 := hR 1 (by omega); have h2 := hR 2 (by omega); have h3 := hR 3 (by omega); have h4 := hR 4 (by omega)
    have k0 := key _ _ h0.1 h0.2.1 h0.2.2
    have k1 := key _ _ h1.1 h1.2.1 h1.2.2
    have k2 := key _ _ h2.1 h2.2.1 h2.2.2
    have k3 := key _ _ h3.1 h3.2.1 h3.2.2
    have k4 := key _ _ h4.1 h4.2.1 h4.2.2
    simp at k0 k1 k2 k3 k4
    subst k0 k1 k2 k3 k4
    rfl

set_option maxHeartbeats 2000000 in
theorem law14known_calls (w : World) : Calls Try.prog 20 #[] w fun e w' => e = .returned (.bool true) ∧ Up w w' := by
  have hTX : Hid (textOf [[97, 98], []] ++ [0] = [99, 100, 1, 1, 0]) := Lib.hid (by decide)
  have hSY : Hid (tsyms [99, 100, 1, 1, 0] 258 = [0, 1, 99, 100]) := Lib.hid (by decide +kernel)
  have kc := fun (w : World) (C : Array Value) (n c : Nat) => Lib.run_convert_bytes_const (P := Try.prog) w 76 5 C n c Try.underlying76 Try.underlying5
  have hr0 : Rd (w.alloc (.cells #[.int .u8 97, .int .u8 98] 5 (2, 3))) .u8 (some ⟨w.heap.size, 0, none⟩) 2 [97, 98] := Rd.block [97, 98] (Go.heap_alloc_new w _) rfl rfl (by simp) (wf_all8 (by decide))
  have hu0 : Up w (w.alloc (.cells #[.int .u8 97, .int .u8 98] 5 (2, 3))) := (Up.refl _).alloc _
  go_enter Try.func20, Try.ntmps20
  go_wp2_with fail
  have hs0 : (w.alloc (.cells #[.int .u8 97, .int .u8 98] 5 (2, 3))).heap.size = w.heap.size + 1 := by simp
  generalize (w.alloc (.cells #[.int .u8 97, .int .u8 98] 5 (2, 3))) = w0 at *
  rw [← hs0]
  clear hs0
  have hr1 := hr0.up ((Up.refl _).alloc (.cells #[.slice (some ⟨w.heap.size, 0, none⟩) 2 2, .slice none 0 0] 76))
  have hu1 := hu0.trans ((Up.refl _).alloc (.cells #[.slice (some ⟨w.heap.size, 0, none⟩) 2 2, .slice none 0 0] 76))
  refine (alphaText_calls _ 2 [[97, 98], []] _ (rdl_two _ (some ⟨w.heap.size, 0, none⟩) none 2 0 [97, 98] [] _ _ _ (Blk.new w0 76 _).out rfl hr1 (Rd.nil _ _)) (by decide)).mono ?_
  rintro e w2 ⟨v2, rfl, hv2, hu2⟩
  rw [hTX.out] at hv2
  obtain ⟨B2, c2, rfl, hr2⟩ := hv2.rd
  have hU2 := hu1.trans hu2
  clear hr1 hu1 hr0 hu0 hu2
  go_wp2_with fail
  refine (alphaNew_calls B2 c2 [99, 100, 1, 1, 0] w2 hr2 (by decide)).mono ?_
  rintro e w3 ⟨hu3, hp⟩
  rcases hp with ⟨_, p, rfl, hT⟩ | ⟨hB, _⟩
  case inr => exact absurd hB (by decide)
  have hS := Lib.hid (tsyms_rising [99, 100, 1, 1, 0] 258).srt
  rw [hSY.out] at hT hS
  have hU3 := hU2.trans hu3
  go_wp2_with fail
  refine (alphaCodes_calls B2 c2 [99, 100, 1, 1, 0] w3 hT hS.out (by simp) (hr2.up hu3) (by simp)).mono ?_
  rintro e w4 ⟨hu4, hp⟩
  rcases hp with ⟨v4, ms, rfl, hv4, hm, hR⟩ | ⟨hD, _⟩
  case inr => exact absurd (by decide) hD
  have hms : ms = [2, 3, 1, 1, 0] := known14_codes ms hm hR
  subst hms
  obtain ⟨B4, c4, rfl, hr4⟩ := hv4.rd
  have hU4 := hU3.trans hu4
  clear hm hR
  have hl1 := rd_lit w4 3 .i64 [99, 100, 1, 1, 0] (by simp) (wf_all (by decide)) _ rfl 5 rfl
  have hul1 : Up w4 (w4.alloc (.cells #[.int .i64 99, .int .i64 100, .int .i64 1, .int .i64 1, .int .i64 0] 3)) := (Up.refl _).alloc _
  go_wp2_with fail
  refine (ref6Same_eq (((hr2.up hu3).up hu4).up hul1) hl1 rfl rfl rfl).mono ?_
  rintro e w5 ⟨rfl, hq5⟩
  have hU5 := hU4.trans (hul1.trans hq5.up)
  have hr5 := (hr4.up hul1).up hq5.up
  have hl2 := rd_lit w5 3 .i64 [2, 3, 1, 1, 0] (by simp) (wf_all (by decide)) _ rfl 5 rfl
  have hul2 : Up w5 (w5.alloc (.cells #[.int .i64 2, .int .i64 3, .int .i64 1, .int .i64 1, .int .i64 0] 3)) := (Up.refl _).alloc _
  clear hul1 hl1
  go_wp2_with fail
  refine (ref6Same_eq (hr5.up hul2) hl2 rfl rfl rfl).mono ?_
  rintro e w6 ⟨rfl, hq6⟩
  go_wp2_with fail
  go_ret
  exact ⟨rfl, hU5.trans (hul2.trans hq6.up)⟩
end Go.Proofs.Ytneliajeokajbaa
