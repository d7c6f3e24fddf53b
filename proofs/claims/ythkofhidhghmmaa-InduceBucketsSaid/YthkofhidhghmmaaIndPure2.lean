/- Layer 16: the pure side: buckets. -/
import Derived.Test.YthkofhidhghmmaaIndPure
namespace Go.Proofs.Ythkofhidhghmmaa.IndPure
open Go.RowKit Go.Proofs.Ythkofhidhghmmaa Go.Proofs.Ythkofhidhghmmaa.PInd Go.Proofs.YthkofhidhghmmaaW.PrintWords Go.Proofs.YthkofhidhghmmaaW.PrintMore
set_option linter.unusedVariables false

theorem known_mono : ∀ k, LeO (incipitlaw16_known.f k) (incipitlaw16_known.f (k + 1)) := incipitlaw16_known.mono
set_option maxRecDepth 100000 in
theorem known : Ev (fun k => incipitlaw16_known.f k) true := Ev.of known_mono (k := 60) (by kernel_rfl)

theorem codes_of {x : List Int} (hx : Txt x) (hb : x.length ≤ 65536) : CodesP x := ⟨hx.pos, hb, fun y hy => by have := hx.rng y hy; omega⟩
theorem heads {x : List Int} (hx : Txt x) (hb : x.length ≤ 65536) : Ev (fun k => induce_Heads.f k x) (headsL x, 0) := by
  unfold induce_Heads.f
  refine Ev.bind (check x hb (txt_wf hx)) ?_
  simp only [if_pos ((txt_iff x).2 hx), if_pos (codes_of hx hb)]
  exact Ev.now _
theorem tails {x : List Int} (hx : Txt x) (hb : x.length ≤ 65536) : Ev (fun k => induce_Tails.f k x) (tailsL x, 0) := by
  unfold induce_Tails.f
  refine Ev.bind (check x hb (txt_wf hx)) ?_
  simp only [if_pos ((txt_iff x).2 hx), if_pos (codes_of hx hb)]
  exact Ev.now _
theorem greatest_l (x : List Int) (hb : x.length < 1000000) : ∀ d i : Nat, i + d = x.length → ∀ n, Ev (fun k => incipitref16_Greatest.l0 k x n (i : Int)) ((x.drop i).foldl max n) := by
  intro d
  induction d with
  | zero =>
    intro i hi n
    rw [List.drop_of_length_le (by omega)]
    exact Ev_now fun k => by simp only [incipitref16_Greatest.l0]; rw [if_neg (by omega)]; rfl
  | succ d ih =>
    intro i hi n
    rw [drop_cons x i 0 (by omega), List.foldl_cons]
    exact Ev_to (ih (i + 1) (by omega) _) fun k => by
      simp only [incipitref16_Greatest.l0]
      rw [if_pos (by omega), if_pos (by omega), rd_nat, w_succ i (by omega), show mx n (x.getD i 0) = max n (x.getD i 0) by unfold mx; omega]
theorem greatest {x : List Int} (hx : Txt x) (hb : x.length ≤ 65536) : Ev (fun k => incipitref16_Greatest.f k x) (Lib.maxOf x) := by
  have := greatest_l x (by omega) x.length 0 (by omega) 0
  obtain ⟨h1, h2⟩ := maxOf_spec hx.pos
  obtain ⟨h3, h4, h5⟩ := fold_max x 0
  rw [List.drop_zero] at this
  have h6 := hx.rng _ h1
  have e : x.foldl max 0 = Lib.maxOf x := by
    have h7 := h4 _ h1
    rcases h5 with h5 | h5
    · omega
    · have := h2 _ h5
      omega
  rw [e] at this
  exact this
theorem bucket_l (x : List Int) (hb : x.length < 1000000) (c : Int) : ∀ d i : Nat, i + d = x.length → Ev (fun k => incipitref16_Bucket.l0 k x c (hdC (x.take i) c : Int) (cntC (x.take i) c : Int) (i : Int)) ((hdC x c : Int), (hdC x (c + 1) : Int)) := by
  intro d
  induction d with
  | zero =>
    intro i hi
    have h1 := hdC_le x c
    have h2 := cntC_le x c
    rw [List.take_of_length_le (by omega), hdC_succ]
    exact Ev_now fun k => by
      simp only [incipitref16_Bucket.l0]
      rw [if_neg (by omega), w_id (by omega) (by omega)]
      simp
  | succ d ih =>
    intro i hi
    have h1 := hdC_le (x.take i) c
    have h2 := cntC_le (x.take i) c
    rw [List.length_take] at h1 h2
    have e1 : hdC (x.take (i + 1)) c = hdC (x.take i) c + if x.getD i 0 < c then 1 else 0 := by
      unfold hdC
      rw [take_succ_getD x i 0 (by omega), List.filter_append, List.length_append]
      congr 1
      generalize x.getD i 0 = z
      by_cases h : z < c
      · simp [h]
      · simp [h]
    have e2 : cntC (x.take (i + 1)) c = cntC (x.take i) c + if x.getD i 0 = c then 1 else 0 := by
      unfold cntC
      rw [take_succ_getD x i 0 (by omega), List.filter_append, List.length_append]
      congr 1
      generalize x.getD i 0 = z
      by_cases h : z = c
      · simp [h]
      · simp [h]
    have := ih (i + 1) (by omega)
    rw [e1, e2] at this
    refine Ev_to this fun k => ?_
    simp only [incipitref16_Bucket.l0]
    rw [if_pos (by omega), if_pos (by omega), rd_nat, w_succ i (by omega), w_succ (hdC (x.take i) c) (by omega), w_succ (cntC (x.take i) c) (by omega)]
    by_cases g1 : x.getD i 0 < c
    · rw [if_pos g1, if_pos g1, if_neg (by omega), if_neg (by omega)]; rfl
    · rw [if_neg g1, if_neg g1]
      by_cases g2 : x.getD i 0 = c
      · rw [if_pos g2, if_pos g2]; rfl
      · rw [if_neg g2, if_neg g2]; rfl
theorem bucket (x : List Int) (hb : x.length < 1000000) (c : Int) : Ev (fun k => incipitref16_Bucket.f k x c) ((hdC x c : Int), (hdC x (c + 1) : Int)) := bucket_l x hb c x.length 0 (by omega)

theorem headsL_len (x : List Int) : (headsL x).length = topM x := heads_len _ _ _
theorem tailsL_len (x : List Int) : (tailsL x).length = topM x := tails_len _ _ _
theorem headsL_get (x : List Int) (c : Nat) (h : c < topM x) : (headsL x).getD c 0 = (hdC x (c : Int) : Int) := by
  unfold headsL headsUp
  rw [mapR_get _ _ _ h, if_pos h]
theorem tailsL_get (x : List Int) (c : Nat) (h : c < topM x) : (tailsL x).getD c 0 = (hdC x ((c : Int) + 1) : Int) := by
  unfold tailsL tailsUp
  rw [mapR_get _ _ _ h, if_pos h]
theorem bk_l0 {x : List Int} (hb : x.length ≤ 65536) (ht : topM x ≤ 65536) : ∀ d c : Nat, c + d = topM x → Ev (fun k => incipitlaw16_InduceBuckets.l0 k x (headsL x) (tailsL x) (c : Int)) true := by
  intro d
  induction d with
  | zero =>
    intro c hc
    refine Ev_to (Ev.bind known (Ev.now _)) fun k => ?_
    simp only [incipitlaw16_InduceBuckets.l0]
    rw [if_neg (by rw [headsL_len]; omega)]
  | succ d ih =>
    intro c hc
    refine Ev_to (f := fun k => (incipitref16_Bucket.f k x (c : Int)).bind fun bt => if (hdC x (c : Int) : Int) = bt.1 then (if (hdC x ((c : Int) + 1) : Int) = bt.2 then incipitlaw16_InduceBuckets.l0 k x (headsL x) (tailsL x) ((c + 1 : Nat) : Int) else some false) else some false) (Ev.bind (bucket x (by omega) c) (by simp only [if_true]; exact ih (c + 1) (by omega))) fun k => ?_
    simp only [incipitlaw16_InduceBuckets.l0]
    rw [if_pos (by rw [headsL_len]; omega), rd_nat, headsL_get x c (by omega)]
    congr 1
    funext bt
    rw [if_pos (by omega), if_pos (show (c : Int) < ((tailsL x).length : Int) by rw [tailsL_len]; omega), rd_nat, tailsL_get x c (by omega), w_succ c (by omega)]
theorem InduceBuckets : incipitlaw16_InduceBuckets.Pure := by
  intro l0 a1 _ _ _ _
  obtain ⟨x, hxe, hx, hL⟩ := text l0 a1
  have hc := (codes_of hx (by omega)).codes.top
  unfold incipitlaw16_InduceBuckets.f
  refine Ev.rounds ?_
  refine Ev.bind hxe ?_
  refine Ev.bind (heads hx (by omega)) ?_
  refine Ev.bind (tails hx (by omega)) ?_
  simp only [if_true]
  refine Ev.bind (greatest hx (by omega)) ?_
  have e1 : ((headsL x).length : Int) = wrap64 (Lib.maxOf x + 1) := by rw [headsL_len, hc.1, w_id] <;> omega
  simp only [if_pos e1]
  have e2 : (((tailsL x).length : Int) != ((headsL x).length : Int)) = false := by rw [headsL_len, tailsL_len]; simp
  simp only [e2]
  exact Ev_to (bk_l0 (by omega) hc.2.1 (topM x) 0 (by omega)) fun k => by
    simp only [incipitlaw16_InduceBuckets.j0]
    rw [if_neg (by decide)]; rfl
end Go.Proofs.Ythkofhidhghmmaa.IndPure
