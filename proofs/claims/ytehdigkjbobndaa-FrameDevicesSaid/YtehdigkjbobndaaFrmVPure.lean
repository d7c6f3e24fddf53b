/- Layer 4 without memory: Open, the reference's Open and Check, To, Of (written by wip/tools/mkfrmv.py out of FrmPureR, FrmPure). -/
import Derived.Test.YtehdigkjbobndaaEvW
import Derived.Test.YtehdigkjbobndaaFrmPlain
import Derived.Test.YtehdigkjbobndaaPrt
import Derived.Test.YtehdigkjbobndaaPFrmVx0
import Derived.Test.YtehdigkjbobndaaPFrmVx1
import Derived.Test.YtehdigkjbobndaaPFrmVx2
namespace Go.Proofs.Ytehdigkjbobndaa.FrmVPure
open Go.RowKit Go.Proofs.Ytehdigkjbobndaa Go.Proofs.Ytehdigkjbobndaa.PFrmV Go.Proofs.YtehdigkjbobndaaW.PrintWords Go.Proofs.YtehdigkjbobndaaW.PrintMore
set_option maxRecDepth 100000

theorem same1_l (a b : List Int) (hl : a.length = b.length) (hs : a.length < 4611686018427387904) : ∀ d i : Nat, i + d = a.length → Ev (fun k => incipitref01_Same.l0 k a b (i : Int)) (decide (a.drop i = b.drop i)) := by
  intro d
  induction d with
  | zero =>
    intro i hi
    rw [List.drop_of_length_le (by omega), List.drop_of_length_le (by omega), decide_eq_true rfl]
    exact Ev_now fun k => by simp only [incipitref01_Same.l0]; rw [if_neg (by omega)]
  | succ d ih =>
    intro i hi
    rw [drop_cons a i 0 (by omega), drop_cons b i 0 (by omega)]
    by_cases e : a.getD i 0 = b.getD i 0
    · rw [e]
      simp only [List.cons.injEq, true_and]
      exact Ev_to (ih (i + 1) (by omega)) fun k => by
        simp only [incipitref01_Same.l0]
        rw [if_pos (by omega), if_pos (by omega), if_pos (by omega), if_pos (by rw [rd_nat, rd_nat, e]), w_succ i (by omega)]
    · rw [decide_eq_false (by simp only [List.cons.injEq]; exact fun h => e h.1)]
      exact Ev_now fun k => by
        simp only [incipitref01_Same.l0]
        rw [if_pos (by omega), if_pos (by omega), if_pos (by omega), if_neg (by rw [rd_nat, rd_nat]; exact e)]
theorem same1 (a b : List Int) (hs : a.length < 4611686018427387904) : Ev (fun k => incipitref01_Same.f k a b) (decide (a = b)) := by
  by_cases h : a.length = b.length
  · have := same1_l a b h hs a.length 0 (by omega)
    simp only [List.drop_zero] at this
    exact Ev_as this fun k => by unfold incipitref01_Same.f; rw [if_pos (by omega)]; rfl
  · rw [decide_eq_false (fun e => h (by rw [e]))]
    exact Ev_eq fun k => by unfold incipitref01_Same.f; rw [if_neg (by omega)]
theorem u8s {l : List Int} (h : ∀ x ∈ l, (Lit.int .u8 x).wf = true) : ∀ x ∈ l, 0 ≤ x ∧ x < 256 := fun x hx => InK.u8 ⟨h x hx⟩
theorem ofU8 {l : List Int} (h : ∀ x ∈ l, 0 ≤ x ∧ x < 256) : inKs .u8 l = true := inKs_mk fun x hx => InK.of_u8 (h x hx).1 (h x hx).2
theorem sameR (a b c : Int) (l : List Int) (a' b' c' : Int) (l' : List Int) (h : l.length < 4611686018427387904) : Ev (fun k => incipitref04_Same.f k a b c l a' b' c' l') (decide (a = a' ∧ b = b' ∧ c = c' ∧ l = l')) := by
  unfold incipitref04_Same.f
  by_cases h1 : a = a'
  · by_cases h2 : b = b'
    · by_cases h3 : c = c'
      · simp only [if_pos h1, if_pos h2, if_pos h3]
        refine Ev.bind (same1 l l' h) ?_
        have : decide (a = a' ∧ b = b' ∧ c = c' ∧ l = l') = decide (l = l') := by simp [h1, h2, h3]
        rw [this]
        exact Ev.now _
      · simp only [if_pos h1, if_pos h2, if_neg h3]; simpa [h3] using Ev.now _
    · simp only [if_pos h1, if_neg h2]; simpa [h2] using Ev.now _
  · simp only [if_neg h1]; simpa [h1] using Ev.now _

theorem decF (l : List Int) (h : ∀ x ∈ l, 0 ≤ x ∧ x < 256) : frame_Decode.f l = some (frmDec l) := by
  unfold frame_Decode.f
  rw [if_pos (ofU8 h)]
theorem rdecF (l : List Int) (h : ∀ x ∈ l, 0 ≤ x ∧ x < 256) : incipitref04_Decode.f l = some (frmDec l) := by
  unfold incipitref04_Decode.f
  rw [if_pos (ofU8 h), refDec_eq h]
theorem frmDec_u8 {l : List Int} (h : ∀ x ∈ l, 0 ≤ x ∧ x < 256) : ∀ x ∈ (frmDec l).2.2.2.1, 0 ≤ x ∧ x < 256 := by
  unfold frmDec
  split
  · intro x hx; cases hx
  split
  · intro x hx; cases hx
  split
  · intro x hx; cases hx
  split
  · intro x hx; exact h x (List.mem_of_mem_drop (List.mem_of_mem_take hx))
  · intro x hx; cases hx

abbrev D := Int × Int × Int × List Int × Int
def openD (d : D) (page : Int) (ks : List Int) : D := if d.2.2.2.2 = 0 then (if d.2.2.1 = page then (if ks = [] ∨ d.1 ∈ ks then (d.1, d.2.1, d.2.2.1, d.2.2.2.1, 0) else (0, 0, 0, [], 13)) else (0, 0, 0, [], 5)) else (0, 0, 0, [], d.2.2.2.2)
theorem open_l (ks : List Int) (hk : ks.length < 1000000) (a b c : Int) (l : List Int) : ∀ d i : Nat, i + d = ks.length → Ev (fun k => frame_Open.l0 k ks (ks.length : Int) (i : Int) a b c l) (if a ∈ ks.drop i then (a, b, c, l, 0) else (0, 0, 0, [], 13)) := by
  intro d
  induction d with
  | zero =>
    intro i hi
    rw [List.drop_of_length_le (by omega), if_neg (by simp)]
    exact Ev_now fun k => by simp only [frame_Open.l0]; rw [if_neg (by omega)]
  | succ d ih =>
    intro i hi
    rw [drop_cons ks i 0 (by omega)]
    by_cases h : ks.getD i 0 = a
    · rw [if_pos (by rw [h]; simp)]
      exact Ev_now fun k => by simp only [frame_Open.l0]; rw [if_pos (by omega), if_pos (by omega), if_pos (by omega), if_pos (by rw [rd_nat]; exact h)]
    · have hm : (a ∈ ks.getD i 0 :: ks.drop (i + 1)) ↔ a ∈ ks.drop (i + 1) := by
        rw [List.mem_cons]
        exact ⟨fun h2 => h2.elim (fun e => absurd e.symm h) id, .inr⟩
      simp only [hm]
      exact Ev_to (ih (i + 1) (by omega)) fun k => by simp only [frame_Open.l0]; rw [if_pos (by omega), if_pos (by omega), if_pos (by omega), if_neg (by rw [rd_nat]; exact h), w_succ i (by omega)]
theorem openF (l : List Int) (hu : ∀ x ∈ l, 0 ≤ x ∧ x < 256) (page : Int) (ks : List Int) (hk : ks.length < 1000000) : Ev (fun k => frame_Open.f k l page ks) (openD (frmDec l) page ks) := by
  unfold frame_Open.f openD
  simp only [decF l hu, Option.bind_some]
  generalize frmDec l = d
  by_cases h1 : d.2.2.2.2 = 0
  · simp only [if_pos h1]
    by_cases h2 : d.2.2.1 = page
    · simp only [if_pos h2]
      by_cases h3 : ks = []
      · subst h3
        simp only [List.length_nil, true_or, if_true]
        exact Ev.now _
      · have h4 : ¬ (ks.length : Int) = 0 := fun e => h3 (List.eq_nil_of_length_eq_zero (by omega))
        simp only [if_neg h4]
        have := open_l ks hk d.1 d.2.1 d.2.2.1 d.2.2.2.1 ks.length 0 (by omega)
        rw [List.drop_zero] at this
        have he : (ks = [] ∨ d.1 ∈ ks) ↔ d.1 ∈ ks := ⟨fun h => h.elim (fun e => absurd e h3) id, .inr⟩
        simp only [he]
        exact this
    · simp only [if_neg h2]; exact Ev.now _
  · simp only [if_neg h1]; exact Ev.now _
theorem ropen_l (ks : List Int) (hk : ks.length < 1000000) (a b c : Int) (l : List Int) : ∀ d i : Nat, i + d = ks.length → ∀ ok : Bool, Ev (fun k => incipitref04_Open.l0 k ks ok (i : Int) a b c l) (if ok = true ∨ a ∈ ks.drop i then (a, b, c, l, 0) else (0, 0, 0, [], 13)) := by
  intro d
  induction d with
  | zero =>
    intro i hi ok
    rw [List.drop_of_length_le (by omega)]
    refine Ev_now fun k => ?_
    simp only [incipitref04_Open.l0]
    rw [if_neg (by omega)]
    cases ok <;> simp
  | succ d ih =>
    intro i hi ok
    rw [drop_cons ks i 0 (by omega)]
    cases ok with
    | true =>
      have := ih (i + 1) (by omega) true
      simp only [true_or, if_true] at this ⊢
      exact Ev_to this fun k => by simp only [incipitref04_Open.l0]; rw [if_pos (by omega)]; simp only [if_true]; rw [w_succ i (by omega)]
    | false =>
      have := ih (i + 1) (by omega) (ks.getD i 0 == a)
      have hm : ((ks.getD i 0 == a) = true ∨ a ∈ ks.drop (i + 1)) ↔ (false = true ∨ a ∈ ks.getD i 0 :: ks.drop (i + 1)) := by
        rw [List.mem_cons, beq_iff_eq]
        simp [eq_comm]
      simp only [hm] at this
      exact Ev_to this fun k => by simp only [incipitref04_Open.l0]; rw [if_pos (by omega), if_neg (by decide), if_pos (by omega), rd_nat, w_succ i (by omega)]
theorem ropenF (l : List Int) (hu : ∀ x ∈ l, 0 ≤ x ∧ x < 256) (page : Int) (ks : List Int) (hk : ks.length < 1000000) : Ev (fun k => incipitref04_Open.f k l page ks) (openD (frmDec l) page ks) := by
  unfold incipitref04_Open.f openD
  simp only [rdecF l hu, Option.bind_some]
  generalize frmDec l = d
  by_cases h1 : d.2.2.2.2 = 0
  · simp only [if_pos h1]
    by_cases h2 : d.2.2.1 = page
    · simp only [if_pos h2]
      have := ropen_l ks hk d.1 d.2.1 d.2.2.1 d.2.2.2.1 ks.length 0 (by omega) ((ks.length : Int) == 0)
      rw [List.drop_zero] at this
      have he : (((ks.length : Int) == 0) = true ∨ d.1 ∈ ks) ↔ (ks = [] ∨ d.1 ∈ ks) := by
        rw [beq_iff_eq, show ((ks.length : Int) = 0) ↔ ks = [] from ⟨fun e => List.eq_nil_of_length_eq_zero (by omega), fun e => by rw [e]; rfl⟩]
      simp only [he] at this
      exact this
    · simp only [if_neg h2]; exact Ev.now _
  · simp only [if_neg h1]; exact Ev.now _

theorem dec_len (l : List Int) : (frmDec l).2.2.2.1.length ≤ 238 := by
  rcases frmDec_cases l with ⟨e, h, _⟩ | ⟨k, e, p, b, h, ho, _⟩
  · rw [h]; simp
  · rw [h]; exact ho.lb
theorem open_len (l : List Int) (page : Int) (ks : List Int) : (openD (frmDec l) page ks).2.2.2.1.length ≤ 238 := by
  unfold openD
  split
  · split
    · split
      · exact dec_len l
      · simp
    · simp
  · simp
theorem refCheck (k e p : Int) (b : List Int) : Ev (fun n => incipitref04_Check.f n k e p b) (frmCheck k e p b) := by
  have hj1 : ∀ x, Ev (fun n => incipitref04_Check.j1 n x k e p b) (if x = true then 10 else if 238 < b.length then 2 else 0) := fun x => by
    refine Ev_now fun n => ?_
    simp only [incipitref04_Check.j1]
    cases x
    · simp only [Bool.false_eq_true, if_false]
      by_cases h : 238 < b.length
      · rw [if_pos h, if_pos (show (b.length : Int) > 238 by omega)]
      · rw [if_neg h, if_neg (show ¬ (b.length : Int) > 238 by omega)]
    · rfl
  have hj0 : ∀ x, Ev (fun n => incipitref04_Check.j0 n x k e p b) (if x = true then 13 else if e < 0 ∨ 4294967295 < e ∨ p < 0 ∨ 2048 ≤ p then 10 else if 238 < b.length then 2 else 0) := fun x => by
    cases x
    · rw [if_neg (by decide)]
      by_cases h1 : e < 0
      · rw [if_pos (.inl h1)]
        exact Ev_to (hj1 true) fun n => by simp only [incipitref04_Check.j0]; rw [if_neg (by decide), if_pos h1]
      · by_cases h2 : 4294967295 < e
        · rw [if_pos (.inr (.inl h2))]
          exact Ev_to (hj1 true) fun n => by simp only [incipitref04_Check.j0]; rw [if_neg (by decide), if_neg h1, if_pos h2]
        · by_cases h3 : p < 0
          · rw [if_pos (.inr (.inr (.inl h3)))]
            exact Ev_to (hj1 true) fun n => by simp only [incipitref04_Check.j0]; rw [if_neg (by decide), if_neg h1, if_neg h2, if_pos h3]
          · by_cases h4 : 2048 ≤ p
            · rw [if_pos (.inr (.inr (.inr h4)))]
              exact Ev_to (hj1 true) fun n => by simp only [incipitref04_Check.j0]; rw [if_neg (by decide), if_neg h1, if_neg h2, if_neg h3, decide_eq_true (show p > 2047 by omega)]
            · rw [if_neg (show ¬ (e < 0 ∨ 4294967295 < e ∨ p < 0 ∨ 2048 ≤ p) by omega)]
              have := hj1 false
              rw [if_neg (by decide)] at this
              exact Ev_to this fun n => by simp only [incipitref04_Check.j0]; rw [if_neg (by decide), if_neg h1, if_neg h2, if_neg h3, decide_eq_false (show ¬ p > 2047 by omega)]
    · rw [if_pos rfl]
      exact Ev_now fun n => by simp only [incipitref04_Check.j0]; rfl
  unfold incipitref04_Check.f frmCheck
  by_cases h1 : k < 1
  · simp only [if_pos h1, if_pos (show k < 1 ∨ 9 < k from .inl h1)]
    exact hj0 true
  · simp only [if_neg h1]
    by_cases h2 : 9 < k
    · rw [if_pos (.inr h2)]
      simp only [decide_eq_true (show k > 9 from h2)]
      exact hj0 true
    · rw [if_neg (by omega)]
      simp only [decide_eq_false (show ¬ k > 9 from h2)]
      exact hj0 false
theorem toF (a b c : Int) (l : List Int) : incipitlaw04_To.f a b c l = some (a, b, c, l.take 250) := by
  unfold incipitlaw04_To.f
  have h1 : 0 ≤ mn (l.length : Int) 250 := mn_nonneg l.length 250
  have h2 : mn (l.length : Int) 250 ≤ (l.length : Int) := mn_le l.length 250
  have h3 : (l.take 250).length ≤ 250 := List.length_take_le _ _
  have h4 : l.take (mn (l.length : Int) 250).toNat = l.take 250 := take_mn l 250
  rw [Option.bind_some, h4, if_pos h1, if_pos h2, if_pos (by simp; omega)]
  rfl
theorem ofF (a b c : Int) (l : List Int) : incipitlaw04_Of.f a b c l = some (a, b, c, l) := rfl
end Go.Proofs.Ytehdigkjbobndaa.FrmVPure
