/- Layer 3: Waiting. -/
import Derived.Test.YtehdigkjbobndaaDevR
namespace Go.Proofs.Ytehdigkjbobndaa
open Go.RowKit
set_option maxRecDepth 100000

theorem sumTo_le {f : Nat → Nat} {M : Nat} : ∀ {n : Nat}, (∀ i, i < n → f i ≤ M) → sumTo f n ≤ n * M
  | 0, _ => by simp [sumTo]
  | n + 1, h => by
    have := sumTo_le (n := n) fun i hi => h i (by omega)
    have := h n (by omega)
    rw [sumTo, Nat.succ_mul]
    omega
/-- How many versions were met. -/
def metSum (s : DSt) (L : Int → Bool) : Nat := sumTo (fun i => if L (i : Int) then 0 else (s.wt i).length) s.pg.length
theorem metSum_le {s : DSt} (h : DOk s) (hwr : s.wr < 1000000000000) (L : Int → Bool) : metSum s L ≤ 2048000000000000 := by
  have h1 : metSum s L ≤ s.pg.length * s.wr := sumTo_le fun i _ => by
    split
    · omega
    · exact h.wmax _
  have h2 : s.pg.length * s.wr ≤ 2048 * 1000000000000 := Nat.mul_le_mul h.most (by omega)
  omega
theorem metSum_step {s : DSt} (h : DOk s) (L : Int → Bool) {x : Int} (hL : L x = true) (hw : s.wt x ≠ []) : metSum s (fun y => L y && !decide (y = x)) = metSum s L + (s.wt x).length := by
  obtain ⟨h0, h1⟩ := h.win x hw
  obtain ⟨i, rfl⟩ := Int.eq_ofNat_of_zero_le h0
  refine sumTo_one (p := i) (by omega) (fun j hj hne => ?_) ?_
  · have : decide ((j : Int) = (i : Int)) = false := decide_eq_false (by omega)
    simp only [this, Bool.not_false, Bool.and_true]
  · simp [hL]
set_option maxHeartbeats 1000000 in
theorem devWaiting_calls (g : Nat) (S : Nat → Prop) (s : DSt) (w : World) (h : DevI w g S s) (hwr : s.wr < 1000000000000) :
    Calls Try.prog 34 #[.pointer (some ⟨g, 0, none⟩)] w fun e w' => e = .returned (.int .i64 (sumTo (fun i => (s.wt i).length) s.pg.length : Nat)) ∧ Up w w' := by
  obtain ⟨gl, cap, bm, n, f, hd⟩ := h.out
  have g7 : w.cell? ⟨g, 7, none⟩ = some (.map (some bm)) := hd.b.cell 7
  have HO := Lib.hid hd.ok
  have HWR := Lib.hid hwr
  have HF := Lib.hid fun x v (e : f x = some v) => (show ∃ A c, v = .slice A (s.wt x).length c ∧ s.wt x ≠ [] by
    rcases hd.wts.at_ x with ⟨h1, _⟩ | ⟨v', h1, h2, h3⟩
    · rw [e] at h1; cases h1
    · rw [e] at h1
      obtain rfl := Option.some.inj h1
      obtain ⟨A, c, h4, _⟩ := h3.slice
      exact ⟨A, c, h4, h2⟩)
  have HN := Lib.hid fun x (e : f x = none) => (show s.wt x = [] by
    rcases hd.wts.at_ x with ⟨_, h2⟩ | ⟨v', h1, h2, h3⟩
    · exact h2
    · rw [e] at h1; cases h1)
  have hmap := hd.map
  clear h hwr hd
  go_enter Try.func34, Try.ntmps34
  go_wp2_with (refine wpl_mapRange w rfl _ 91 rfl 3 55 Try.underlying3 Try.underlying91 bm n f rfl hmap ?_; intro w1 cnt hr hu1 hsz1)
  dsimp only [Act.put]
  simp only [List.setIfInBounds_toArray, List.set_cons_zero, List.set_cons_succ]
  go_loopw [3, 5] (fun nv _ wr => ∃ (L : Int → Bool) (cnt : Nat), nv = .int .i64 (metSum s L : Nat) ∧ RngI Try.prog 3 wr bm w.heap.size n f L cnt ∧ Up w wr) (fun _ _ wr => wr.rangeLeft bm w.heap.size)
  case atStart => exact ⟨_, cnt, by
    refine congrArg (fun k : Nat => Value.int .i64 (k : Int)) ?_
    exact (sumTo_zero fun i _ => by
      show (if (f i).isSome = true then 0 else (s.wt i).length) = 0
      cases hf : f i with
      | none => rw [HN.out _ hf]; rfl
      | some v => rfl).symm, hr, hu1⟩
  case round =>
    obtain ⟨L, cnt', rfl, hr', hu'⟩ := hrel
    have hle := metSum_le HO.out HWR.out L
    have HST := Lib.hid fun x hL hw => metSum_step HO.out L (x := x) hL hw
    have HEND := Lib.hid fun (hl : ∀ x, InK .i64 x → L x = false) => (show metSum s L = sumTo (fun i => (s.wt i).length) s.pg.length from sumTo_congr fun i hi => by
      have := HO.out.most
      rw [hl i (InK.of_i64 (by omega) (by omega))]
      rfl)
    have HLE := Lib.hid fun L => metSum_le HO.out HWR.out L
    generalize hms : metSum s L = ms at *
    clear hr hu1
    go_wp2_with (refine wpl_mapNext wr rfl _ rfl 3 Try.underlying3 bm w.heap.size n f L cnt' rfl hr' ?_ ?_)
    · intro hc hl
      have HE := Lib.hid (HEND.out hl)
      clear hl HEND
      go_wp2_with fail
      go_ret
      exact ⟨by rw [← HE.out]; rfl, hu'⟩
    · intro x v w' cnt2 hx hL hfx hr2 hlt hux hsz hen
      obtain ⟨A, c, rfl, hw⟩ := HF.out x v hfx
      have HS2 := Lib.hid (HST.out x hL hw)
      have hle2 := HLE.out (fun y => L y && !decide (y = x))
      rw [HS2.out] at hle2
      have HR := Lib.hid hr2
      clear hr2 hL
      go_wp2_with fail
      go_roundw
      case rel => exact ⟨_, cnt2, by rw [HS2.out]; congr 1, HR.out, hu'.thenx hux fun i hi e => by omega⟩
      case measure => rw [HR.out.left_eq, hr'.left_eq]; exact hlt
end Go.Proofs.Ytehdigkjbobndaa
