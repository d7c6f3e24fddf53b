/- Layer 4 without memory: what the printed functions come to. -/
import Derived.Test.YtehdigkjbobndaaEvW
import Derived.Test.YtehdigkjbobndaaFrmPlain
import Derived.Test.YtehdigkjbobndaaLib1
import Derived.Test.YtehdigkjbobndaaPFrmAx2
import Derived.Test.YtehdigkjbobndaaPFrmAx3
import Derived.Test.YtehdigkjbobndaaOpen
namespace Go.Proofs.Ytehdigkjbobndaa.FrmPure
open Go.RowKit Go.Proofs.Ytehdigkjbobndaa Go.Proofs.Ytehdigkjbobndaa.PFrmA Go.Proofs.YtehdigkjbobndaaW.PrintWords Go.Proofs.YtehdigkjbobndaaW.PrintMore
set_option maxRecDepth 100000

theorem same1_l (a b : List Int) (hl : a.length = b.length) (hs : a.length < 4611686018427387904) : ∀ d i : Nat, i + d = a.length → Ev (fun k => incipitref01_Same.l0 k a b (i : Int)) (decide (a.drop i = b.drop i)) := by
  intro d
  induction d with
  | zero =>
    intro i hi
    rw [List.drop_of_length_le (by omega), List.drop_of_length_le (by omega), decide_eq_true rfl]
    exact Ev_now fun k => by simp only [incipitref01_Same.l0]; rw [if_neg (by omega)]
  | succ d ih =>
    intro i hi
    rw [drop_cons a i 0 (by omega), drop_cons b i 0 (by omega)]
    by_cases e : a.getD i 0 = b.getD i 0
    · rw [e]
      simp only [List.cons.injEq, true_and]
      exact Ev_to (ih (i + 1) (by omega)) fun k => by
        simp only [incipitref01_Same.l0]
        rw [if_pos (by omega), if_pos (by omega), if_pos (by omega), if_pos (by rw [rd_nat, rd_nat, e]), w_succ i (by omega)]
    · rw [decide_eq_false (by simp only [List.cons.injEq]; exact fun h => e h.1)]
      exact Ev_now fun k => by
        simp only [incipitref01_Same.l0]
        rw [if_pos (by omega), if_pos (by omega), if_pos (by omega), if_neg (by rw [rd_nat, rd_nat]; exact e)]
theorem same1 (a b : List Int) (hs : a.length < 4611686018427387904) : Ev (fun k => incipitref01_Same.f k a b) (decide (a = b)) := by
  by_cases h : a.length = b.length
  · have := same1_l a b h hs a.length 0 (by omega)
    simp only [List.drop_zero] at this
    exact Ev_as this fun k => by unfold incipitref01_Same.f; rw [if_pos (by omega)]; rfl
  · rw [decide_eq_false (fun e => h (by rw [e]))]
    exact Ev_eq fun k => by unfold incipitref01_Same.f; rw [if_neg (by omega)]
theorem u8s {l : List Int} (h : ∀ x ∈ l, (Lit.int .u8 x).wf = true) : ∀ x ∈ l, 0 ≤ x ∧ x < 256 := fun x hx => InK.u8 ⟨h x hx⟩
theorem ofU8 {l : List Int} (h : ∀ x ∈ l, 0 ≤ x ∧ x < 256) : inKs .u8 l = true := inKs_mk fun x hx => InK.of_u8 (h x hx).1 (h x hx).2
theorem equal (a b : List Int) (ha : ∀ x ∈ a, 0 ≤ x ∧ x < 256) (hb : ∀ x ∈ b, 0 ≤ x ∧ x < 256) : bytes_Equal.f a b = some (decide (a = b)) := by
  unfold bytes_Equal.f
  congr 1
  by_cases h : a = b
  · subst h; simp
  · rw [decide_eq_false h]
    exact beq_eq_false_iff_ne.2 fun e => h (strOfNums_inj ha hb (by
      have := congrArg List.toArray e
      cases hs : strOfNums a; cases ht : strOfNums b
      rw [hs, ht] at this
      simpa [ByteArray.toList_eq] using this))
theorem sameF (a b c : Int) (l : List Int) (a' b' c' : Int) (l' : List Int) (h : ∀ x ∈ l, 0 ≤ x ∧ x < 256) (h' : ∀ x ∈ l', 0 ≤ x ∧ x < 256) : frame_Same.f a b c l a' b' c' l' = some (decide (a = a' ∧ b = b' ∧ c = c' ∧ l = l')) := by
  unfold frame_Same.f
  rw [equal l l' h h', Option.bind_some]
  by_cases h1 : a = a'
  · by_cases h2 : b = b'
    · by_cases h3 : c = c'
      · rw [if_pos h1, if_pos h2, if_pos h3]; simp [h1, h2, h3]
      · rw [if_pos h1, if_pos h2, if_neg h3]; simp [h3]
    · rw [if_pos h1, if_neg h2]; simp [h2]
  · rw [if_neg h1]; simp [h1]
theorem refCheck (k e p : Int) (b : List Int) : Ev (fun n => incipitref04_Check.f n k e p b) (frmCheck k e p b) := by
  have hj1 : ∀ x, Ev (fun n => incipitref04_Check.j1 n x k e p b) (if x = true then 10 else if 238 < b.length then 2 else 0) := fun x => by
    refine Ev_now fun n => ?_
    simp only [incipitref04_Check.j1]
    cases x
    · simp only [Bool.false_eq_true, if_false]
      by_cases h : 238 < b.length
      · rw [if_pos h, if_pos (show (b.length : Int) > 238 by omega)]
      · rw [if_neg h, if_neg (show ¬ (b.length : Int) > 238 by omega)]
    · rfl
  have hj0 : ∀ x, Ev (fun n => incipitref04_Check.j0 n x k e p b) (if x = true then 13 else if e < 0 ∨ 4294967295 < e ∨ p < 0 ∨ 2048 ≤ p then 10 else if 238 < b.length then 2 else 0) := fun x => by
    cases x
    · rw [if_neg (by decide)]
      by_cases h1 : e < 0
      · rw [if_pos (.inl h1)]
        exact Ev_to (hj1 true) fun n => by simp only [incipitref04_Check.j0]; rw [if_neg (by decide), if_pos h1]
      · by_cases h2 : 4294967295 < e
        · rw [if_pos (.inr (.inl h2))]
          exact Ev_to (hj1 true) fun n => by simp only [incipitref04_Check.j0]; rw [if_neg (by decide), if_neg h1, if_pos h2]
        · by_cases h3 : p < 0
          · rw [if_pos (.inr (.inr (.inl h3)))]
            exact Ev_to (hj1 true) fun n => by simp only [incipitref04_Check.j0]; rw [if_neg (by decide), if_neg h1, if_neg h2, if_pos h3]
          · by_cases h4 : 2048 ≤ p
            · rw [if_pos (.inr (.inr (.inr h4)))]
              exact Ev_to (hj1 true) fun n => by simp only [incipitref04_Check.j0]; rw [if_neg (by decide), if_neg h1, if_neg h2, if_neg h3, decide_eq_true (show p > 2047 by omega)]
            · rw [if_neg (show ¬ (e < 0 ∨ 4294967295 < e ∨ p < 0 ∨ 2048 ≤ p) by omega)]
              have := hj1 false
              rw [if_neg (by decide)] at this
              exact Ev_to this fun n => by simp only [incipitref04_Check.j0]; rw [if_neg (by decide), if_neg h1, if_neg h2, if_neg h3, decide_eq_false (show ¬ p > 2047 by omega)]
    · rw [if_pos rfl]
      exact Ev_now fun n => by simp only [incipitref04_Check.j0]; rfl
  unfold incipitref04_Check.f frmCheck
  by_cases h1 : k < 1
  · simp only [if_pos h1, if_pos (show k < 1 ∨ 9 < k from .inl h1)]
    exact hj0 true
  · simp only [if_neg h1]
    by_cases h2 : 9 < k
    · rw [if_pos (.inr h2)]
      simp only [decide_eq_true (show k > 9 from h2)]
      exact hj0 true
    · rw [if_neg (by omega)]
      simp only [decide_eq_false (show ¬ k > 9 from h2)]
      exact hj0 false
theorem check (k e p : Int) (b : List Int) : Ev (fun n => frame_Check.f n k e p b) (frmCheck k e p b) := by
  have hj1 : ∀ x, Ev (fun n => frame_Check.j1 n x k e p b) (if x = true then 10 else if 238 < b.length then 2 else 0) := fun x => by
    refine Ev_now fun n => ?_
    simp only [frame_Check.j1]
    cases x
    · simp only [Bool.false_eq_true, if_false]
      by_cases h : 238 < b.length
      · rw [if_pos h, if_pos (show (b.length : Int) > 238 by omega)]
      · rw [if_neg h, if_neg (show ¬ (b.length : Int) > 238 by omega)]
    · rfl
  have hj0 : ∀ x, Ev (fun n => frame_Check.j0 n x k e p b) (if x = true then 13 else if e < 0 ∨ 4294967295 < e ∨ p < 0 ∨ 2048 ≤ p then 10 else if 238 < b.length then 2 else 0) := fun x => by
    cases x
    · rw [if_neg (by decide)]
      by_cases h1 : e < 0
      · rw [if_pos (.inl h1)]
        exact Ev_to (hj1 true) fun n => by simp only [frame_Check.j0]; rw [if_neg (by decide), if_pos h1]
      · by_cases h2 : 4294967295 < e
        · rw [if_pos (.inr (.inl h2))]
          exact Ev_to (hj1 true) fun n => by simp only [frame_Check.j0]; rw [if_neg (by decide), if_neg h1, if_pos h2]
        · by_cases h3 : p < 0
          · rw [if_pos (.inr (.inr (.inl h3)))]
            exact Ev_to (hj1 true) fun n => by simp only [frame_Check.j0]; rw [if_neg (by decide), if_neg h1, if_neg h2, if_pos h3]
          · by_cases h4 : 2048 ≤ p
            · rw [if_pos (.inr (.inr (.inr h4)))]
              exact Ev_to (hj1 true) fun n => by simp only [frame_Check.j0]; rw [if_neg (by decide), if_neg h1, if_neg h2, if_neg h3, decide_eq_true (show p ≥ 2048 by omega)]
            · rw [if_neg (show ¬ (e < 0 ∨ 4294967295 < e ∨ p < 0 ∨ 2048 ≤ p) by omega)]
              have := hj1 false
              rw [if_neg (by decide)] at this
              exact Ev_to this fun n => by simp only [frame_Check.j0]; rw [if_neg (by decide), if_neg h1, if_neg h2, if_neg h3, decide_eq_false (show ¬ p ≥ 2048 by omega)]
    · rw [if_pos rfl]
      exact Ev_now fun n => by simp only [frame_Check.j0]; rfl
  unfold frame_Check.f frmCheck
  by_cases h1 : k < 1
  · simp only [if_pos h1, if_pos (show k < 1 ∨ 9 < k from .inl h1)]
    exact hj0 true
  · simp only [if_neg h1]
    by_cases h2 : 9 < k
    · rw [if_pos (.inr h2)]
      simp only [decide_eq_true (show k > 9 from h2)]
      exact hj0 true
    · rw [if_neg (by omega)]
      simp only [decide_eq_false (show ¬ k > 9 from h2)]
      exact hj0 false

theorem toF (a b c : Int) (l : List Int) : incipitlaw04_To.f a b c l = some (a, b, c, l.take 250) := by
  unfold incipitlaw04_To.f
  have h1 : 0 ≤ mn (l.length : Int) 250 := mn_nonneg l.length 250
  have h2 : mn (l.length : Int) 250 ≤ (l.length : Int) := mn_le l.length 250
  have h3 : (l.take 250).length ≤ 250 := List.length_take_le _ _
  have h4 : l.take (mn (l.length : Int) 250).toNat = l.take 250 := take_mn l 250
  rw [Option.bind_some, h4, if_pos h1, if_pos h2, if_pos (by simp; omega)]
  rfl
theorem ofF (a b c : Int) (l : List Int) : incipitlaw04_Of.f a b c l = some (a, b, c, l) := rfl
theorem encF (a b c : Int) (l : List Int) (h : ∀ x ∈ l, 0 ≤ x ∧ x < 256) : frame_Encode.f a b c l = some (if frmCheck a b c l = 0 then frmEnc a b c l else [], frmCheck a b c l) := by
  unfold frame_Encode.f
  rw [if_pos (ofU8 h)]
theorem decF (l : List Int) (h : ∀ x ∈ l, 0 ≤ x ∧ x < 256) : frame_Decode.f l = some (frmDec l) := by
  unfold frame_Decode.f
  rw [if_pos (ofU8 h)]
theorem sumF (l : List Int) (h : ∀ x ∈ l, 0 ≤ x ∧ x < 256) : incipitref01_Sum.f l = some (CrcPlain.crc l : Int) := by
  unfold incipitref01_Sum.f
  rw [if_pos (ofU8 h)]
theorem lowF (n : Nat) (h : n < 4294967296) : incipitref01_Low.f (n : Int) = some (low4 n) := by
  unfold incipitref01_Low.f low4
  congr 1
  simp only [Int.tmod_eq_emod_of_nonneg (show (0 : Int) ≤ (n : Int) by omega), Int.tdiv_eq_ediv_of_nonneg (show (0 : Int) ≤ (n : Int) by omega)]
  congr 1
  · omega
  congr 1
  · omega
  congr 1
  · omega
  congr 1
  omega

/-! ### the document's bytes -/
theorem app_lt {a b n : Nat} (h : a + b < n) (h2 : n ≤ 140737488355328) : a + b < 140737488355328 := by omega
theorem refEnc_l {k e p : Int} {b : List Int} (hok : FrmOk k e p b) (hu : ∀ x ∈ b, 0 ≤ x ∧ x < 256) : ∀ d i : Nat, i + d = 238 - b.length →
    Ev (fun n => incipitref04_Encode.l0 n (241 :: k :: (le4 e ++ (le2 p ++ (le2 b.length ++ (b ++ List.replicate i 0)))))) (frmEnc k e p b) := by
  intro d
  obtain ⟨hk0, hk1, he0, he1, hp0, hp1, hl⟩ := hok
  induction d with
  | zero =>
    intro i hi
    have hi : i = 238 - b.length := by omega
    subst hi
    have hX : (241 :: k :: (le4 e ++ (le2 p ++ (le2 b.length ++ (b ++ List.replicate (238 - b.length) 0))))).length = 248 := by
      simp only [List.length_cons, List.length_append, le4_len, le2_len, List.length_replicate]
      omega
    have hcut : ((241 :: k :: (le4 e ++ (le2 p ++ (le2 b.length ++ (b ++ List.replicate (238 - b.length) 0))))).take 6).drop 2 = le4 e := rfl
    have hraw : (241 :: k :: (le4 e ++ (le2 p ++ (le2 b.length ++ (b ++ List.replicate (238 - b.length) 0))))) ++ le4 e = frmRaw k e p b := by simp [frmRaw]
    have hrl := frmRaw_len (k := k) (e := e) (p := p) hl
    have hru := frmRaw_u8 (k := k) (e := e) (p := p) (by omega) (by omega) hu
    generalize (241 :: k :: (le4 e ++ (le2 p ++ (le2 b.length ++ (b ++ List.replicate (238 - b.length) 0))))) = X at *
    refine Ev_now fun n => ?_
    simp only [incipitref04_Encode.l0]
    rw [if_neg (by omega), if_pos (by omega), if_pos (by omega), Option.bind_some, hcut, if_pos (by rw [le4_len]; omega), Option.bind_some, hraw, sumF _ hru, Option.bind_some, lowF _ (CrcPlain.crc_lt _ hru), Option.bind_some, if_pos (by rw [hrl]; simp [low4])]
    rfl
  | succ d ih =>
    intro i hi
    have hX : (241 :: k :: (le4 e ++ (le2 p ++ (le2 b.length ++ (b ++ List.replicate i 0))))).length = 10 + b.length + i := by
      simp only [List.length_cons, List.length_append, le4_len, le2_len, List.length_replicate]
      omega
    have hs : (241 :: k :: (le4 e ++ (le2 p ++ (le2 b.length ++ (b ++ List.replicate i 0))))) ++ [0] = 241 :: k :: (le4 e ++ (le2 p ++ (le2 b.length ++ (b ++ List.replicate (i + 1) 0)))) := by
      rw [List.replicate_succ']
      simp
    refine Ev_to (ih (i + 1) (by omega)) fun n => ?_
    rw [← hs]
    generalize (241 :: k :: (le4 e ++ (le2 p ++ (le2 b.length ++ (b ++ List.replicate i 0))))) = X at *
    simp only [incipitref04_Encode.l0]
    rw [if_pos (by omega), if_pos (by omega)]
theorem refEnc {k e p : Int} {b : List Int} (hok : FrmOk k e p b) (hu : ∀ x ∈ b, 0 ≤ x ∧ x < 256) : Ev (fun n => incipitref04_Encode.f n k e p b) (frmEnc k e p b) := by
  have hx := refEnc_l hok hu (238 - b.length) 0 (by omega)
  obtain ⟨hk0, hk1, he0, he1, hp0, hp1, hl⟩ := hok
  refine Ev_as hx fun n => ?_
  unfold incipitref04_Encode.f
  rw [Option.bind_some, if_pos (by simp; omega)]
  congr 1
  have e1 : k % 256 = k := by omega
  have e2 : Int.tmod e 256 % 256 = e % 256 := by rw [Int.tmod_eq_emod_of_nonneg he0]; omega
  have w1 : wrap64 (Int.tdiv e 256) = e / 256 := by rw [Int.tdiv_eq_ediv_of_nonneg he0, w_id] <;> omega
  have w2 : wrap64 (Int.tdiv e 65536) = e / 65536 := by rw [Int.tdiv_eq_ediv_of_nonneg he0, w_id] <;> omega
  have w3 : wrap64 (Int.tdiv e 16777216) = e / 16777216 := by rw [Int.tdiv_eq_ediv_of_nonneg he0, w_id] <;> omega
  have w4 : wrap64 (Int.tdiv p 256) = p / 256 := by rw [Int.tdiv_eq_ediv_of_nonneg hp0, w_id] <;> omega
  have w5 : wrap64 ((b.length : Int) / 256) = (b.length : Int) / 256 := by rw [w_id] <;> omega
  rw [e1, e2, w1, w2, w3, w4, w5, Int.tmod_eq_emod_of_nonneg (show 0 ≤ e / 256 by omega), Int.tmod_eq_emod_of_nonneg (show 0 ≤ e / 65536 by omega), Int.tmod_eq_emod_of_nonneg hp0]
  simp only [le4, le2, List.cons_append, List.nil_append, List.replicate_zero, List.append_nil]
  simp only [Int.emod_emod]

/-! ### the laws -/
theorem FrameBytes (a b c : Int) (l : List Int) (hw : InK .i64 a ∧ InK .i64 b ∧ InK .i64 c ∧ Elems (InK .u8) l) : ∃ k, incipitlaw04_FrameBytes.f k a b c l = some true := by
  have hu : ∀ x ∈ l.take 250, 0 ≤ x ∧ x < 256 := fun x hx => (hw.2.2.2.all x (List.mem_of_mem_take hx)).u8
  have hl : (l.take 250).length ≤ 250 := List.length_take_le _ _
  refine Ev.rounds ?_
  unfold incipitlaw04_FrameBytes.f
  simp only [toF, Option.bind_some, ofF]
  generalize l.take 250 = m at *
  simp only [encF a b c m hu, Option.bind_some]
  refine Ev.bind (refCheck a b c m) ?_
  simp only [if_true]
  refine Ev.bind (check a b c m) ?_
  rw [sameF a b c m a b c m hu hu, decide_eq_true (show a = a ∧ b = b ∧ c = c ∧ m = m from ⟨rfl, rfl, rfl, rfl⟩)]
  simp only [if_true, Option.bind_some, Bool.not_true]
  by_cases hc : frmCheck a b c m = 0
  · have hok := (frmCheck_iff a b c m).1 hc
    rw [if_pos hc, hc]
    have he := frmRaw_u8 (k := a) (e := b) (p := c) (by have := hok.k0; omega) (by have := hok.k1; omega) hu
    have hlen := frmEnc_len (k := a) (e := b) (p := c) hok.lb
    have hd := frmDec_enc hok hu
    have hr := refEnc hok hu
    have heu : ∀ x ∈ frmEnc a b c m, 0 ≤ x ∧ x < 256 := marked_u8 _ he
    refine Ev.step (f := fun n => (incipitref04_Encode.f n a b c m).bind fun t => (incipitref01_Same.f n (frmEnc a b c m) t).bind fun u => if u = true then some true else some false) (fun n => ?_) ?_
    · simp only [incipitlaw04_FrameBytes.j0]
      rw [if_neg (by decide), if_pos trivial, decF _ heu, Option.bind_some, hd, show incipitlaw04_known.f = some true from rfl, Option.bind_some, if_pos rfl]
      simp only [sameF a b c m a b c m hu hu, if_true, Option.bind_some]
      simp
    · refine Ev.bind hr ?_
      refine Ev.bind (same1 _ _ (by omega)) ?_
      rw [decide_eq_true rfl]
      exact Ev.now _
  · rw [if_neg hc]
    refine Ev_now fun n => ?_
    simp only [incipitlaw04_FrameBytes.j0]
    rw [if_neg (by decide), if_neg hc]
    rfl

theorem turnF (l : List Int) (hu : ∀ x ∈ l, 0 ≤ x ∧ x < 256) (hl : l.length ≤ 1000) (i y : Int) (hy : 0 ≤ y ∧ y < 256) : crc_Turn.f l i y = some (turned l i y) := by
  unfold crc_Turn.f slices_Clone_byte_byte.f turned
  rw [if_pos (ofU8 hu), if_pos (show l.length ≤ 140737488355328 by omega), Option.bind_some]
  by_cases h0 : 0 ≤ i
  · by_cases h1 : i < (l.length : Int)
    · rw [if_pos (show i ≥ 0 from h0), if_pos h1, if_pos h0, if_pos ⟨h0, h1⟩]
      obtain ⟨k, rfl⟩ := Int.eq_ofNat_of_zero_le h0
      have hr := hu (l.getD k 0) (getD_mem l k 0 (by omega))
      rw [rd_nat, Int.toNat_natCast, u8_xor _ y hr.1 hr.2 hy.1 hy.2]
    · rw [if_pos (show i ≥ 0 from h0), if_neg h1, if_neg (fun h => h1 h.2)]
  · rw [if_neg (show ¬ i ≥ 0 from h0), if_neg (fun h => h0 h.1)]

theorem FrameTurns (a b c : Int) (l : List Int) (i y : Int) (hw : InK .i64 a ∧ InK .i64 b ∧ InK .i64 c ∧ Elems (InK .u8) l) (_ : InK .i64 i) (hy : InK .u8 y) : incipitlaw04_FrameTurns.f a b c l i y = some true := by
  have hu : ∀ x ∈ l.take 250, 0 ≤ x ∧ x < 256 := fun x hx => (hw.2.2.2.all x (List.mem_of_mem_take hx)).u8
  have hl : (l.take 250).length ≤ 250 := List.length_take_le _ _
  unfold incipitlaw04_FrameTurns.f
  simp only [toF, Option.bind_some]
  generalize l.take 250 = m at *
  simp only [encF a b c m hu, Option.bind_some]
  by_cases hc : frmCheck a b c m = 0
  · have hok := (frmCheck_iff a b c m).1 hc
    rw [if_pos hc, if_pos hc]
    have he := frmRaw_u8 (k := a) (e := b) (p := c) (by have := hok.k0; omega) (by have := hok.k1; omega) hu
    have hlen := frmEnc_len (k := a) (e := b) (p := c) hok.lb
    have heu : ∀ x ∈ frmEnc a b c m, 0 ≤ x ∧ x < 256 := marked_u8 _ he
    have hi : 0 ≤ wrap64 (Int.tmod (IntKind.u64.wrap i) 256) ∧ wrap64 (Int.tmod (IntKind.u64.wrap i) 256) < 256 := by
      have h1 : IntKind.u64.wrap i = i % 18446744073709551616 := rfl
      rw [h1, Int.tmod_eq_emod_of_nonneg (by omega)]
      unfold wrap64
      omega
    generalize wrap64 (Int.tmod (IntKind.u64.wrap i) 256) = j at *
    rw [turnF _ heu (by omega) _ _ hy.u8, Option.bind_some, decF _ (turned_u8 _ heu _ _ hy.u8), Option.bind_some, show incipitlaw04_known.f = some true from rfl, Option.bind_some, if_pos rfl]
    by_cases h0 : y = 0
    · subst h0
      rw [turned_zero _ heu, frmDec_enc hok hu]
      rfl
    · rw [frmDec_turned hok hu j y hi hy.u8 h0]
      have : (y == 0) = false := by simpa using h0
      rw [this, sameF _ _ _ _ _ _ _ _ (by simp) (by simp)]
      rfl
  · rw [if_neg hc]
    rfl
end Go.Proofs.Ytehdigkjbobndaa.FrmPure
