/- Layer 4 without memory: FrameReads. -/
import Derived.Test.YtehdigkjbobndaaEvW
import Derived.Test.YtehdigkjbobndaaFrmPlain
import Derived.Test.YtehdigkjbobndaaPrt
import Derived.Test.YtehdigkjbobndaaPFrmRx3
namespace Go.Proofs.Ytehdigkjbobndaa.FrmPureR
open Go.RowKit Go.Proofs.Ytehdigkjbobndaa Go.Proofs.Ytehdigkjbobndaa.PFrmR Go.Proofs.YtehdigkjbobndaaW.PrintWords Go.Proofs.YtehdigkjbobndaaW.PrintMore
set_option maxRecDepth 100000

theorem same1_l (a b : List Int) (hl : a.length = b.length) (hs : a.length < 4611686018427387904) : ∀ d i : Nat, i + d = a.length → Ev (fun k => incipitref01_Same.l0 k a b (i : Int)) (decide (a.drop i = b.drop i)) := by
  intro d
  induction d with
  | zero =>
    intro i hi
    rw [List.drop_of_length_le (by omega), List.drop_of_length_le (by omega), decide_eq_true rfl]
    exact Ev_now fun k => by simp only [incipitref01_Same.l0]; rw [if_neg (by omega)]
  | succ d ih =>
    intro i hi
    rw [drop_cons a i 0 (by omega), drop_cons b i 0 (by omega)]
    by_cases e : a.getD i 0 = b.getD i 0
    · rw [e]
      simp only [List.cons.injEq, true_and]
      exact Ev_to (ih (i + 1) (by omega)) fun k => by
        simp only [incipitref01_Same.l0]
        rw [if_pos (by omega), if_pos (by omega), if_pos (by omega), if_pos (by rw [rd_nat, rd_nat, e]), w_succ i (by omega)]
    · rw [decide_eq_false (by simp only [List.cons.injEq]; exact fun h => e h.1)]
      exact Ev_now fun k => by
        simp only [incipitref01_Same.l0]
        rw [if_pos (by omega), if_pos (by omega), if_pos (by omega), if_neg (by rw [rd_nat, rd_nat]; exact e)]
theorem same1 (a b : List Int) (hs : a.length < 4611686018427387904) : Ev (fun k => incipitref01_Same.f k a b) (decide (a = b)) := by
  by_cases h : a.length = b.length
  · have := same1_l a b h hs a.length 0 (by omega)
    simp only [List.drop_zero] at this
    exact Ev_as this fun k => by unfold incipitref01_Same.f; rw [if_pos (by omega)]; rfl
  · rw [decide_eq_false (fun e => h (by rw [e]))]
    exact Ev_eq fun k => by unfold incipitref01_Same.f; rw [if_neg (by omega)]
theorem u8s {l : List Int} (h : ∀ x ∈ l, (Lit.int .u8 x).wf = true) : ∀ x ∈ l, 0 ≤ x ∧ x < 256 := fun x hx => InK.u8 ⟨h x hx⟩
theorem ofU8 {l : List Int} (h : ∀ x ∈ l, 0 ≤ x ∧ x < 256) : inKs .u8 l = true := inKs_mk fun x hx => InK.of_u8 (h x hx).1 (h x hx).2
theorem sameR (a b c : Int) (l : List Int) (a' b' c' : Int) (l' : List Int) (h : l.length < 4611686018427387904) : Ev (fun k => incipitref04_Same.f k a b c l a' b' c' l') (decide (a = a' ∧ b = b' ∧ c = c' ∧ l = l')) := by
  unfold incipitref04_Same.f
  by_cases h1 : a = a'
  · by_cases h2 : b = b'
    · by_cases h3 : c = c'
      · simp only [if_pos h1, if_pos h2, if_pos h3]
        refine Ev.bind (same1 l l' h) ?_
        have : decide (a = a' ∧ b = b' ∧ c = c' ∧ l = l') = decide (l = l') := by simp [h1, h2, h3]
        rw [this]
        exact Ev.now _
      · simp only [if_pos h1, if_pos h2, if_neg h3]; simpa [h3] using Ev.now _
    · simp only [if_pos h1, if_neg h2]; simpa [h2] using Ev.now _
  · simp only [if_neg h1]; simpa [h1] using Ev.now _

theorem encF (a b c : Int) (l : List Int) (h : ∀ x ∈ l, 0 ≤ x ∧ x < 256) : frame_Encode.f a b c l = some (if frmCheck a b c l = 0 then frmEnc a b c l else [], frmCheck a b c l) := by
  unfold frame_Encode.f
  rw [if_pos (ofU8 h)]
theorem decF (l : List Int) (h : ∀ x ∈ l, 0 ≤ x ∧ x < 256) : frame_Decode.f l = some (frmDec l) := by
  unfold frame_Decode.f
  rw [if_pos (ofU8 h)]
theorem rdecF (l : List Int) (h : ∀ x ∈ l, 0 ≤ x ∧ x < 256) : incipitref04_Decode.f l = some (frmDec l) := by
  unfold incipitref04_Decode.f
  rw [if_pos (ofU8 h), refDec_eq h]
theorem frmDec_u8 {l : List Int} (h : ∀ x ∈ l, 0 ≤ x ∧ x < 256) : ∀ x ∈ (frmDec l).2.2.2.1, 0 ≤ x ∧ x < 256 := by
  unfold frmDec
  split
  · intro x hx; cases hx
  split
  · intro x hx; cases hx
  split
  · intro x hx; cases hx
  split
  · intro x hx; exact h x (List.mem_of_mem_drop (List.mem_of_mem_take hx))
  · intro x hx; cases hx

abbrev D := Int × Int × Int × List Int × Int
def openD (d : D) (page : Int) (ks : List Int) : D := if d.2.2.2.2 = 0 then (if d.2.2.1 = page then (if ks = [] ∨ d.1 ∈ ks then (d.1, d.2.1, d.2.2.1, d.2.2.2.1, 0) else (0, 0, 0, [], 13)) else (0, 0, 0, [], 5)) else (0, 0, 0, [], d.2.2.2.2)
theorem open_l (ks : List Int) (hk : ks.length < 1000000) (a b c : Int) (l : List Int) : ∀ d i : Nat, i + d = ks.length → Ev (fun k => frame_Open.l0 k ks (ks.length : Int) (i : Int) a b c l) (if a ∈ ks.drop i then (a, b, c, l, 0) else (0, 0, 0, [], 13)) := by
  intro d
  induction d with
  | zero =>
    intro i hi
    rw [List.drop_of_length_le (by omega), if_neg (by simp)]
    exact Ev_now fun k => by simp only [frame_Open.l0]; rw [if_neg (by omega)]
  | succ d ih =>
    intro i hi
    rw [drop_cons ks i 0 (by omega)]
    by_cases h : ks.getD i 0 = a
    · rw [if_pos (by rw [h]; simp)]
      exact Ev_now fun k => by simp only [frame_Open.l0]; rw [if_pos (by omega), if_pos (by omega), if_pos (by omega), if_pos (by rw [rd_nat]; exact h)]
    · have hm : (a ∈ ks.getD i 0 :: ks.drop (i + 1)) ↔ a ∈ ks.drop (i + 1) := by
        rw [List.mem_cons]
        exact ⟨fun h2 => h2.elim (fun e => absurd e.symm h) id, .inr⟩
      simp only [hm]
      exact Ev_to (ih (i + 1) (by omega)) fun k => by simp only [frame_Open.l0]; rw [if_pos (by omega), if_pos (by omega), if_pos (by omega), if_neg (by rw [rd_nat]; exact h), w_succ i (by omega)]
theorem openF (l : List Int) (hu : ∀ x ∈ l, 0 ≤ x ∧ x < 256) (page : Int) (ks : List Int) (hk : ks.length < 1000000) : Ev (fun k => frame_Open.f k l page ks) (openD (frmDec l) page ks) := by
  unfold frame_Open.f openD
  simp only [decF l hu, Option.bind_some]
  generalize frmDec l = d
  by_cases h1 : d.2.2.2.2 = 0
  · simp only [if_pos h1]
    by_cases h2 : d.2.2.1 = page
    · simp only [if_pos h2]
      by_cases h3 : ks = []
      · subst h3
        simp only [List.length_nil, true_or, if_true]
        exact Ev.now _
      · have h4 : ¬ (ks.length : Int) = 0 := fun e => h3 (List.eq_nil_of_length_eq_zero (by omega))
        simp only [if_neg h4]
        have := open_l ks hk d.1 d.2.1 d.2.2.1 d.2.2.2.1 ks.length 0 (by omega)
        rw [List.drop_zero] at this
        have he : (ks = [] ∨ d.1 ∈ ks) ↔ d.1 ∈ ks := ⟨fun h => h.elim (fun e => absurd e h3) id, .inr⟩
        simp only [he]
        exact this
    · simp only [if_neg h2]; exact Ev.now _
  · simp only [if_neg h1]; exact Ev.now _
theorem ropen_l (ks : List Int) (hk : ks.length < 1000000) (a b c : Int) (l : List Int) : ∀ d i : Nat, i + d = ks.length → ∀ ok : Bool, Ev (fun k => incipitref04_Open.l0 k ks ok (i : Int) a b c l) (if ok = true ∨ a ∈ ks.drop i then (a, b, c, l, 0) else (0, 0, 0, [], 13)) := by
  intro d
  induction d with
  | zero =>
    intro i hi ok
    rw [List.drop_of_length_le (by omega)]
    refine Ev_now fun k => ?_
    simp only [incipitref04_Open.l0]
    rw [if_neg (by omega)]
    cases ok <;> simp
  | succ d ih =>
    intro i hi ok
    rw [drop_cons ks i 0 (by omega)]
    cases ok with
    | true =>
      have := ih (i + 1) (by omega) true
      simp only [true_or, if_true] at this ⊢
      exact Ev_to this fun k => by simp only [incipitref04_Open.l0]; rw [if_pos (by omega)]; simp only [if_true]; rw [w_succ i (by omega)]
    | false =>
      have := ih (i + 1) (by omega) (ks.getD i 0 == a)
      have hm : ((ks.getD i 0 == a) = true ∨ a ∈ ks.drop (i + 1)) ↔ (false = true ∨ a ∈ ks.getD i 0 :: ks.drop (i + 1)) := by
        rw [List.mem_cons, beq_iff_eq]
        simp [eq_comm]
      simp only [hm] at this
      exact Ev_to this fun k => by simp only [incipitref04_Open.l0]; rw [if_pos (by omega), if_neg (by decide), if_pos (by omega), rd_nat, w_succ i (by omega)]
theorem ropenF (l : List Int) (hu : ∀ x ∈ l, 0 ≤ x ∧ x < 256) (page : Int) (ks : List Int) (hk : ks.length < 1000000) : Ev (fun k => incipitref04_Open.f k l page ks) (openD (frmDec l) page ks) := by
  unfold incipitref04_Open.f openD
  simp only [rdecF l hu, Option.bind_some]
  generalize frmDec l = d
  by_cases h1 : d.2.2.2.2 = 0
  · simp only [if_pos h1]
    by_cases h2 : d.2.2.1 = page
    · simp only [if_pos h2]
      have := ropen_l ks hk d.1 d.2.1 d.2.2.1 d.2.2.2.1 ks.length 0 (by omega) ((ks.length : Int) == 0)
      rw [List.drop_zero] at this
      have he : (((ks.length : Int) == 0) = true ∨ d.1 ∈ ks) ↔ (ks = [] ∨ d.1 ∈ ks) := by
        rw [beq_iff_eq, show ((ks.length : Int) = 0) ↔ ks = [] from ⟨fun e => List.eq_nil_of_length_eq_zero (by omega), fun e => by rw [e]; rfl⟩]
      simp only [he] at this
      exact this
    · simp only [if_neg h2]; exact Ev.now _
  · simp only [if_neg h1]; exact Ev.now _

theorem full_l (l : List Int) (hu : ∀ x ∈ l, 0 ≤ x ∧ x < 256) : ∀ d i : Nat, i + d = min l.length 256 → ∀ o : List Int, o.length = 256 → (∀ x ∈ o, 0 ≤ x ∧ x < 256) → ∃ y, Ev (fun k => incipitlaw03_Full.l0 k l o (i : Int)) y ∧ y.length = 256 ∧ ∀ x ∈ y, 0 ≤ x ∧ x < 256 := by
  intro d
  induction d with
  | zero =>
    intro i hi o ho hou
    refine ⟨o, Ev_now fun k => ?_, ho, hou⟩
    simp only [incipitlaw03_Full.l0]
    by_cases h : (i : Int) < (l.length : Int)
    · rw [if_pos h, if_neg (by omega)]
    · rw [if_neg h]
  | succ d ih =>
    intro i hi o ho hou
    obtain ⟨y, hy, h1, h2⟩ := ih (i + 1) (by omega) (o.set i (l.getD i 0)) (by rw [List.length_set]; exact ho) (fun x hx => by
      rcases List.mem_or_eq_of_mem_set hx with h | h
      · exact hou x h
      · rw [h]; exact hu _ (getD_mem l i 0 (by omega)))
    refine ⟨y, Ev_to hy fun k => ?_, h1, h2⟩
    simp only [incipitlaw03_Full.l0]
    rw [if_pos (by omega), if_pos (by omega), if_pos (by omega), if_pos (by omega), rd_nat, w_succ i (by omega), Int.toNat_natCast]
theorem full (l : List Int) (hu : ∀ x ∈ l, 0 ≤ x ∧ x < 256) : ∃ y, Ev (fun k => incipitlaw03_Full.f k l) y ∧ y.length = 256 ∧ ∀ x ∈ y, 0 ≤ x ∧ x < 256 := by
  obtain ⟨y, hy, h1, h2⟩ := full_l l hu (min l.length 256) 0 (by omega) (List.replicate 256 0) (by simp) (fun x hx => by rw [List.eq_of_mem_replicate hx]; omega)
  exact ⟨y, Ev_as hy fun k => by unfold incipitlaw03_Full.f; rw [if_pos (by decide)]; rfl, h1, h2⟩

theorem dec_len (l : List Int) : (frmDec l).2.2.2.1.length ≤ 238 := by
  rcases frmDec_cases l with ⟨e, h, _⟩ | ⟨k, e, p, b, h, ho, _⟩
  · rw [h]; simp
  · rw [h]; exact ho.lb
theorem open_len (l : List Int) (page : Int) (ks : List Int) : (openD (frmDec l) page ks).2.2.2.1.length ≤ 238 := by
  unfold openD
  split
  · split
    · split
      · exact dec_len l
      · simp
    · simp
  · simp
theorem reads_j (l : List Int) (hu : ∀ x ∈ l, 0 ≤ x ∧ x < 256) (hl : l.length ≤ 1000) (page : Int) (ks : List Int) : Ev (fun k => incipitlaw04_FrameReads.j0 k l page ks) true := by
  have hk : (ks.take 9).length < 1000000 := by have : (ks.take 9).length ≤ 9 := List.length_take_le _ _; omega
  have hm : ks.take (mn (ks.length : Int) 9).toNat = ks.take 9 := take_mn ks 9
  have h1 : 0 ≤ mn (ks.length : Int) 9 := mn_nonneg ks.length 9
  have h2 : mn (ks.length : Int) 9 ≤ (ks.length : Int) := mn_le ks.length 9
  have ho := openF l hu page (ks.take 9) hk
  have hr := ropenF l hu page (ks.take 9) hk
  have hol := open_len l page (ks.take 9)
  have hdl := dec_len l
  have hdu := frmDec_u8 hu
  have hdc := frmDec_cases l
  generalize hO : openD (frmDec l) page (ks.take 9) = o at *
  have hj1 : Ev (fun k => incipitlaw04_FrameReads.j1 k l (frmDec l).2.2.2.2 false (frmDec l).1 (frmDec l).2.1 (frmDec l).2.2.1 (frmDec l).2.2.2.1) true := by
    rcases hdc with ⟨e, h, h3, _⟩ | ⟨k, e, p, b, h, hok, he⟩
    · rw [h]
      exact Ev_now fun k => by simp only [incipitlaw04_FrameReads.j1]; rw [if_neg (by decide), if_neg h3]; rfl
    · rw [h] at hdu ⊢
      have hc := frmCheck_ok hok
      have hse := same1 l l (by omega)
      rw [decide_eq_true rfl] at hse
      refine Ev.step (f := fun n => (incipitref01_Same.f n l l).bind fun t => some t) (fun n => ?_) (Ev.bind hse (Ev.now _))
      simp only [incipitlaw04_FrameReads.j1]
      rw [if_neg (by decide), encF _ _ _ _ hdu, hc, if_pos rfl, he, if_pos trivial, Option.bind_some, show incipitlaw04_known.f = some true from rfl, Option.bind_some, if_pos rfl, if_pos rfl]
  generalize hD : frmDec l = d at *
  refine Ev.step (f := fun k => (frame_Open.f k l page (ks.take 9)).bind fun bt167 => (incipitref04_Open.f k l page (ks.take 9)).bind fun bt175 => (if d.2.2.2.2 = d.2.2.2.2 then (if bt167.2.2.2.2 = bt175.2.2.2.2 then ((incipitlaw04_Of.f d.1 d.2.1 d.2.2.1 d.2.2.2.1).bind fun bt183 => ((incipitref04_Same.f k bt183.1 bt183.2.1 bt183.2.2.1 bt183.2.2.2 d.1 d.2.1 d.2.2.1 d.2.2.2.1).bind fun t189 => (if t189 = true then ((incipitlaw04_Of.f bt167.1 bt167.2.1 bt167.2.2.1 bt167.2.2.2.1).bind fun bt190 => ((incipitref04_Same.f k bt190.1 bt190.2.1 bt190.2.2.1 bt190.2.2.2 bt175.1 bt175.2.1 bt175.2.2.1 bt175.2.2.2.1).bind fun t196 => (incipitlaw04_FrameReads.j1 k l d.2.2.2.2 (!t196) d.1 d.2.1 d.2.2.1 d.2.2.2.1))) else (incipitlaw04_FrameReads.j1 k l d.2.2.2.2 true d.1 d.2.1 d.2.2.1 d.2.2.2.1)))) else (incipitlaw04_FrameReads.j1 k l d.2.2.2.2 true d.1 d.2.1 d.2.2.1 d.2.2.2.1)) else (incipitlaw04_FrameReads.j1 k l d.2.2.2.2 true d.1 d.2.1 d.2.2.1 d.2.2.2.1))) (fun k => ?_) ?_
  · rw [incipitlaw04_FrameReads.j0, if_pos h1, if_pos h2, hm, decF l hu, rdecF l hu, hD]
    rfl
  · refine Ev.bind ho ?_
    refine Ev.bind hr ?_
    simp only [if_true, show ∀ a b c l, incipitlaw04_Of.f a b c l = some (a, b, c, l) from fun _ _ _ _ => rfl, Option.bind_some]
    have s1 := sameR d.1 d.2.1 d.2.2.1 d.2.2.2.1 d.1 d.2.1 d.2.2.1 d.2.2.2.1 (by omega)
    have s2 := sameR o.1 o.2.1 o.2.2.1 o.2.2.2.1 o.1 o.2.1 o.2.2.1 o.2.2.2.1 (by omega)
    rw [decide_eq_true ⟨rfl, rfl, rfl, rfl⟩] at s1 s2
    refine Ev.bind s1 ?_
    simp only [if_true]
    refine Ev.bind s2 ?_
    exact hj1

theorem FrameReads : incipitlaw04_FrameReads.Pure := by
  intro l a page ks _ _ hw _ _ _ _
  have hu := u8s hw
  have h1 : 0 ≤ mn (l.length : Int) 300 := mn_nonneg l.length 300
  have h2 : mn (l.length : Int) 300 ≤ (l.length : Int) := mn_le l.length 300
  have hm : l.take (mn (l.length : Int) 300).toNat = l.take 300 := take_mn l 300
  have hl : (l.take 300).length ≤ 300 := List.length_take_le _ _
  have hu3 : ∀ x ∈ l.take 300, 0 ≤ x ∧ x < 256 := fun x hx => hu x (List.mem_of_mem_take hx)
  refine Ev.rounds ?_
  unfold incipitlaw04_FrameReads.f
  simp only [Option.bind_some, if_pos h1, if_pos h2, hm, List.nil_append, if_pos (show ([] : List Int).length + (l.take 300).length < 140737488355328 by simp; omega)]
  generalize l.take 300 = m at *
  cases a with
  | false =>
    simp only [Bool.false_eq_true, if_false]
    exact reads_j m hu3 (by omega) page ks
  | true =>
    simp only [if_true]
    obtain ⟨y, hy, hyl, hyu⟩ := full m hu3
    refine Ev.bind hy ?_
    have h252 : (252 : Int) ≤ (y.length : Int) := by omega
    have hyu2 : ∀ x ∈ y.take 252, 0 ≤ x ∧ x < 256 := fun x hx => hyu x (List.mem_of_mem_take hx)
    have hmk : crc_Mark.f (y.take 252) = some (marked (y.take 252)) := by
      unfold crc_Mark.f
      rw [if_pos (ofU8 hyu2), if_pos (by rw [List.length_take]; omega)]
    simp only [if_pos h252, hmk, Option.bind_some]
    exact reads_j _ (marked_u8 _ hyu2) (by rw [marked_len, List.length_take]; omega) page ks
end Go.Proofs.Ytehdigkjbobndaa.FrmPureR
