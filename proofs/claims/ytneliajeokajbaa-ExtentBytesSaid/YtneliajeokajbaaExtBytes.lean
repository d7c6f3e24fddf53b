/- Layer 8: ExtentBytes, the pure side. -/
import Derived.Test.YtneliajeokajbaaExtBPure
import Derived.Test.YtneliajeokajbaaGList
import Derived.Test.YtneliajeokajbaaOpen
namespace Go.Proofs.Ytneliajeokajbaa.ExtBPure
open Go.RowKit Go.Proofs.Ytneliajeokajbaa Go.Proofs.Ytneliajeokajbaa.PExtB Go.Proofs.YtneliajeokajbaaW.PrintWords Go.Proofs.YtneliajeokajbaaW.PrintMore
set_option maxRecDepth 100000

def flatE (l : List E) : List Int := l.flatMap fun e => [e.1, e.2]
theorem flatE_len (l : List E) : (flatE l).length = 2 * l.length := by
  induction l with
  | nil => rfl
  | cons e l ih => simp only [flatE, List.flatMap_cons, List.length_append, List.length_cons, List.length_nil] at ih ⊢; omega
theorem flatE_take (l : List E) (i : Nat) (h : i < l.length) : flatE (l.take (i + 1)) = flatE (l.take i) ++ [(l.getD i (0, 0)).1, (l.getD i (0, 0)).2] := by
  have : l.take (i + 1) = l.take i ++ [l.getD i (0, 0)] := by
    rw [List.take_succ_eq_append_getElem h, List.getD_eq_getElem?_getD, List.getElem?_eq_getElem h]; rfl
  rw [this]
  simp [flatE]
def pairs : List Int → List E
  | a :: b :: r => (a, b) :: pairs r
  | _ => []
theorem pairs_flat : ∀ l : List E, pairs (flatE l) = l
  | [] => rfl
  | e :: l => by
    have := pairs_flat l
    simp only [flatE, List.flatMap_cons, List.cons_append, List.nil_append, pairs] at this ⊢
    rw [this]
theorem pairs_len : ∀ l : List Int, (pairs l).length = l.length / 2
  | [] => rfl
  | [_] => by simp [pairs]
  | _ :: _ :: r => by
    rw [pairs, List.length_cons, pairs_len r, List.length_cons, List.length_cons]
    omega
theorem pairs_mem : ∀ (l : List Int) (p : Int → Prop), (∀ x ∈ l, p x) → ∀ e ∈ pairs l, p e.1
  | [], _, _ => by simp [pairs]
  | [_], _, _ => by simp [pairs]
  | a :: b :: r, p, h => by
    intro e he
    rw [pairs, List.mem_cons] at he
    rcases he with rfl | he
    · exact h a (by simp)
    · exact pairs_mem r p (fun x hx => h x (by simp [hx])) e he
theorem pairs_drop : ∀ (i : Nat) (l : List Int), 2 * i + 1 < l.length → pairs (l.drop (2 * i)) = (l.getD (2 * i) 0, l.getD (2 * i + 1) 0) :: pairs (l.drop (2 * (i + 1)))
  | 0, a :: b :: r, _ => rfl
  | 0, [], h => by simp at h
  | 0, [_], h => by simp at h
  | i + 1, [], h => by simp at h
  | i + 1, [_], h => by simp at h
  | i + 1, a :: b :: r, h => by
    have := pairs_drop i r (by simp only [List.length_cons] at h; omega)
    rw [show 2 * (i + 1) = 2 * i + 2 by omega, show 2 * (i + 1 + 1) = 2 * (i + 1) + 2 by omega]
    simpa using this
theorem pairs_take (l : List Int) (i : Nat) (h : 2 * i + 1 < l.length) : pairs (l.take (2 * (i + 1))) = pairs (l.take (2 * i)) ++ [(l.getD (2 * i) 0, l.getD (2 * i + 1) 0)] := by
  induction i generalizing l with
  | zero =>
    match l, h with
    | a :: b :: r, _ => simp [pairs]
  | succ i ih =>
    match l, h with
    | a :: b :: r, h =>
      have := ih r (by simp only [List.length_cons] at h; omega)
      rw [show 2 * (i + 1 + 1) = 2 * (i + 1) + 2 by omega, show 2 * (i + 1) = 2 * i + 2 by omega] at *
      simp only [List.take_succ_cons, pairs, List.cons_append, this]
      simp

def encS (l : List E) : List Int × Int := if chk l = 0 then (vput (flatE l).length ++ vputs (flatE l), 0) else ([], chk l)
theorem right_rng (l : List E) (h : ∀ e ∈ l, rightP e = true) : ∀ x ∈ flatE l, 0 ≤ x ∧ x ≤ 9223372036854775807 := by
  intro x hx
  obtain ⟨e, he, hx⟩ := List.mem_flatMap.1 hx
  have := (rightP_iff e).1 (h e he)
  simp only [List.mem_cons, List.not_mem_nil, or_false] at hx
  omega
theorem listF (l : List Int) (h : ∀ x ∈ l, 0 ≤ x ∧ x ≤ 9223372036854775807) (hl : l.length ≤ 100000) : varint_List.f l = some (vput l.length ++ vputs l) := by
  unfold varint_List.f
  rw [if_pos (inKs_mk fun x hx => InK.of_i64 (by have := h x hx; omega) (h x hx).2), if_pos (by omega), if_pos fun x hx => (h x hx).1]
theorem rlistF (l : List Int) (h : ∀ x ∈ l, 0 ≤ x ∧ x ≤ 9223372036854775807) (hl : l.length ≤ 100000) : incipitref02_List.f l = some (vput l.length ++ vputs l) := by
  unfold incipitref02_List.f
  rw [if_pos (inKs_mk fun x hx => InK.of_i64 (by have := h x hx; omega) (h x hx).2), if_pos (by omega), if_pos fun x hx => (h x hx).1]
theorem getF (l : List Int) (h : ∀ x ∈ l, 0 ≤ x ∧ x < 256) (hl : l.length ≤ 1000000) : varint_GetList.f l = some ((glist l).1, (glist l).2.1, ((glist l).2.2 : Int)) := by
  unfold varint_GetList.f
  rw [if_pos (inKs_mk fun x hx => InK.of_u8 (h x hx).1 (h x hx).2), if_pos (by omega)]
theorem enc_l (l : List E) (hs : l.length ≤ 4096) (hr : ∀ e ∈ l, rightP e = true) : ∀ d i : Nat, i + d = l.length → Ev (fun k => extent_Encode.l0 k (flatE (l.take i)) (toE l) (l.length : Int) (i : Int)) (vput (flatE l).length ++ vputs (flatE l), 0) := by
  intro d
  induction d with
  | zero =>
    intro i hi
    have hi : i = l.length := by omega
    subst hi
    rw [List.take_length]
    refine Ev_now fun k => ?_
    simp only [extent_Encode.l0]
    rw [if_neg (by omega), listF _ (right_rng l hr) (by rw [flatE_len]; omega)]
    rfl
  | succ d ih =>
    intro i hi
    refine Ev_to (ih (i + 1) (by omega)) fun k => ?_
    have hl : (flatE (l.take i)).length ≤ 8192 := by rw [flatE_len, List.length_take]; omega
    simp only [extent_Encode.l0]
    rw [if_pos (by omega), if_pos (by omega), if_pos (by rw [toE_len]; omega), Option.bind_some, toE_rd l i (by omega), if_pos (by simp only [List.length_cons, List.length_nil]; omega), w_succ i (by omega), flatE_take l i (by omega)]
theorem enc_f (l : List E) (hs : l.length ≤ 4096) (hk : ∀ e ∈ l, InK .i64 e.1) : Ev (fun k => extent_Encode.f k (toE l)) (encS l) := by
  unfold extent_Encode.f encS
  refine Ev.bind (check_f l hs hk) ?_
  by_cases h : chk l = 0
  · simp only [if_pos h, toE_len]
    exact enc_l l hs (chk_right l h).1 l.length 0 (by omega)
  · simp only [if_neg h]; exact Ev.now _
theorem renc_l (l : List E) (hs : l.length ≤ 4096) (hr : ∀ e ∈ l, rightP e = true) : ∀ d i : Nat, i + d = l.length → Ev (fun k => incipitref08_Encode.l0 k (toR l) (flatE (l.take i)) (i : Int)) (vput (flatE l).length ++ vputs (flatE l)) := by
  intro d
  induction d with
  | zero =>
    intro i hi
    have hi : i = l.length := by omega
    subst hi
    rw [List.take_length]
    refine Ev_now fun k => ?_
    simp only [incipitref08_Encode.l0]
    rw [if_neg (by rw [toR_len]; omega), rlistF _ (right_rng l hr) (by rw [flatE_len]; omega)]
    rfl
  | succ d ih =>
    intro i hi
    refine Ev_to (ih (i + 1) (by omega)) fun k => ?_
    have hl : (flatE (l.take i)).length ≤ 8192 := by rw [flatE_len, List.length_take]; omega
    simp only [incipitref08_Encode.l0]
    rw [if_pos (by rw [toR_len]; omega), if_pos (by omega), Option.bind_some, toR_rd l i (by omega), if_pos (by simp only [List.length_cons, List.length_nil]; omega), w_succ i (by omega), flatE_take l i (by omega)]
theorem renc_f (l : List E) (hs : l.length ≤ 4096) (hr : ∀ e ∈ l, rightP e = true) : Ev (fun k => incipitref08_Encode.f k (toR l)) (vput (flatE l).length ++ vputs (flatE l)) := by
  unfold incipitref08_Encode.f
  exact renc_l l hs hr l.length 0 (by omega)

def decS (b : List Int) : List S107 × List Int × Int :=
  if (glist b).2.2 = 0 then (if (glist b).1.length % 2 = 0 then (if chk (pairs (glist b).1) = 0 then (toE (pairs (glist b).1), (glist b).2.1, 0) else ([], [], chk (pairs (glist b).1))) else ([], [], 3)) else ([], [], ((glist b).2.2 : Int))
theorem w_two (i : Nat) (h : i < 4611686018427387904) : wrap64 ((i : Int) + 2) = ((i + 2 : Nat) : Int) := by rw [w_id] <;> omega
theorem toE_app (l : List E) (a b : Int) : toE l ++ [⟨a, b⟩] = toE (l ++ [(a, b)]) := by simp [toE]
theorem toR_app (l : List E) (a b : Int) : toR l ++ [⟨a, b⟩] = toR (l ++ [(a, b)]) := by simp [toR]
theorem dec_l (n : List Int) (r : List Int) (hn : n.length ≤ 8000) (h2 : n.length % 2 = 0) (hk : ∀ e ∈ pairs n, InK .i64 e.1) : ∀ d i : Nat, i + d = n.length / 2 →
    Ev (fun k => extent_Decode.l0 k n r (toE (pairs (n.take (2 * i)))) ((2 * i : Nat) : Int)) (if chk (pairs n) = 0 then (toE (pairs n), r, 0) else ([], [], chk (pairs n))) := by
  intro d
  induction d with
  | zero =>
    intro i hi
    have hi : 2 * i = n.length := by omega
    rw [hi, List.take_length]
    have hc := check_f (pairs n) (by rw [pairs_len]; omega) hk
    refine Ev.step (f := fun k => (extent_Check.f k (toE (pairs n))).bind fun t216 => (if t216 = 0 then (some (toE (pairs n), r, 0)) else (some (([] : List S107), ([] : List Int), t216)))) (fun k => ?_) ?_
    · rw [extent_Decode.l0, if_neg (by omega)]
    · refine Ev.bind hc ?_
      by_cases h : chk (pairs n) = 0
      · simp only [if_pos h]; exact Ev.now _
      · simp only [if_neg h]; exact Ev.now _
  | succ d ih =>
    intro i hi
    refine Ev_to (ih (i + 1) (by omega)) fun k => ?_
    have hl : (toE (pairs (n.take (2 * i)))).length ≤ 8000 := by rw [toE_len, pairs_len, List.length_take]; omega
    simp only [extent_Decode.l0]
    rw [if_pos (by omega), if_pos (by omega), w_succ (2 * i) (by omega), if_pos (by omega), if_pos (by omega), if_pos (by omega), rd_nat, rd_nat, toE_app, w_two (2 * i) (by omega), pairs_take n i (by omega)]
    rfl
theorem glist_rng {b : List Int} (hb : ∀ x ∈ b, 0 ≤ x ∧ x < 256) (h : (glist b).2.2 = 0) : b = GL.vlist (glist b).1 ++ (glist b).2.1 ∧ (∀ x ∈ (glist b).1, 0 ≤ x ∧ x ≤ 9223372036854775807) ∧ (glist b).1.length ≤ b.length := by
  have h1 := GL.glist_back (b := b) (l := (glist b).1) (r := (glist b).2.1) (fun x hx => InK.of_u8 (hb x hx).1 (hb x hx).2) (by rw [← h])
  refine ⟨h1.1, h1.2.1, ?_⟩
  have h2 := vputs_ge (glist b).1 fun x hx => (h1.2.1 x hx).1
  have h3 := congrArg List.length h1.1
  simp only [GL.vlist, List.length_append] at h3
  omega
theorem dec_f (b : List Int) (hb : ∀ x ∈ b, 0 ≤ x ∧ x < 256) (hl : b.length ≤ 8000) : Ev (fun k => extent_Decode.f k b) (decS b) := by
  unfold extent_Decode.f decS
  simp only [getF b hb (by omega), Option.bind_some]
  by_cases h : (glist b).2.2 = 0
  · obtain ⟨_, hr, hlen⟩ := glist_rng hb h
    simp only [if_pos h, if_pos (show ((glist b).2.2 : Int) = 0 by omega)]
    by_cases h2 : (glist b).1.length % 2 = 0
    · simp only [if_pos h2, if_pos (show ((glist b).1.length : Int) % 2 = 0 by omega)]
      have := dec_l (glist b).1 (glist b).2.1 (by omega) h2 (pairs_mem _ (fun x => InK .i64 x) fun x hx => InK.of_i64 (by have := hr x hx; omega) (hr x hx).2) ((glist b).1.length / 2) 0 (by omega)
      exact this
    · simp only [if_neg h2, if_neg (show ¬ ((glist b).1.length : Int) % 2 = 0 by omega)]
      exact Ev.now _
  · simp only [if_neg h, if_neg (show ¬ ((glist b).2.2 : Int) = 0 by omega)]
    exact Ev.now _
theorem known8 : Ev (fun k => incipitlaw08_known.f k) true := Ev.of (fun k => incipitlaw08_known.mono k) (k := 60) (by kernel_rfl)
theorem bytes_l (n : List Int) (r : List Int) (hn : n.length ≤ 8000) (h2 : n.length % 2 = 0) (hk : ∀ e ∈ pairs n, InK .i64 e.1) (hr : r.length ≤ 100000) (m : List S107) (q : List Int) (e : Int)
    (hd : (m, q, e) = if chk (pairs n) = 0 then (toE (pairs n), r, 0) else ([], [], chk (pairs n))) : ∀ d i : Nat, i + d = n.length / 2 →
    Ev (fun k => incipitlaw08_ExtentBytes.l0 k m q e n r (toR (pairs (n.take (2 * i)))) ((2 * i : Nat) : Int)) true := by
  intro d
  have hpl : (pairs n).length ≤ 4000 := by rw [pairs_len]; omega
  induction d with
  | zero =>
    intro i hi
    have hi : 2 * i = n.length := by omega
    rw [hi, List.take_length]
    have hc := rcheck_f (pairs n) (by omega) hk
    refine Ev.step (f := fun k => (incipitref08_Check.f k (toR (pairs n))).bind fun t286 => (if t286 = 0 then ((incipitlaw08_known.f k).bind fun t289 => (if t289 = true then (if e = 0 then ((incipitlaw08_Of.f k m).bind fun t290 => ((incipitref08_Same.f k t290 (toR (pairs n))).bind fun t293 => (if t293 = true then ((incipitref01_Same.f k q r).bind fun t294 => (some t294)) else (some false)))) else (some false)) else (some false))) else ((incipitlaw08_known.f k).bind fun t287 => (if t287 = true then ((incipitref08_Check.f k (toR (pairs n))).bind fun t288 => (if e = t288 then (some ((m.length : Int) == 0)) else (some false))) else (some false))))) (fun k => ?_) ?_
    · rw [incipitlaw08_ExtentBytes.l0, if_neg (by rw [w_succ _ (by omega)]; omega)]
    · refine Ev.bind hc ?_
      by_cases h : chk (pairs n) = 0
      · rw [if_pos h] at hd
        cases hd
        simp only [if_pos h]
        refine Ev.bind known8 ?_
        simp only [if_true]
        refine Ev.bind (law_Of (pairs n) (by omega)) ?_
        have hs := same8 (pairs n) (pairs n) (by omega)
        rw [decide_eq_true rfl] at hs
        refine Ev.bind hs ?_
        simp only [if_true]
        have hs1 := same1 r r (by omega)
        rw [decide_eq_true rfl] at hs1
        exact Ev.bind hs1 (Ev.now _)
      · rw [if_neg h] at hd
        cases hd
        simp only [if_neg h]
        refine Ev.bind known8 ?_
        simp only [if_true]
        refine Ev.bind hc ?_
        simp only [if_true]
        exact Ev.now _
  | succ d ih =>
    intro i hi
    refine Ev_to (ih (i + 1) (by omega)) fun k => ?_
    have hl : (toR (pairs (n.take (2 * i)))).length ≤ 8000 := by rw [toR_len, pairs_len, List.length_take]; omega
    rw [incipitlaw08_ExtentBytes.l0, w_succ (2 * i) (by omega), if_pos (by omega), if_pos (by omega), if_pos (by omega), if_pos (by omega), if_pos (by omega), rd_nat, rd_nat, toR_app, w_two (2 * i) (by omega), pairs_take n i (by omega)]
    rfl
theorem glist_rest_len {b : List Int} (hb : ∀ x ∈ b, 0 ≤ x ∧ x < 256) (h : (glist b).2.2 = 0) : (glist b).2.1.length ≤ b.length := by
  have h3 := congrArg List.length (glist_rng hb h).1
  simp only [List.length_append] at h3
  omega
theorem bytes_j (b : List Int) (hb : ∀ x ∈ b, 0 ≤ x ∧ x < 256) (hl : b.length ≤ 8000) : Ev (fun k => incipitlaw08_ExtentBytes.j0 k b) true := by
  have hd := dec_f b hb hl
  refine Ev.step (f := fun k => (extent_Decode.f k b).bind fun bt265 => (if ((glist b).2.2 : Int) = 0 then (if (((glist b).1.length : Int) % 2) = 1 then ((incipitlaw08_known.f k).bind fun t280 => (if t280 = true then (if bt265.2.2 = 3 then (some ((bt265.1.length : Int) == 0)) else (some false)) else (some false))) else (incipitlaw08_ExtentBytes.l0 k bt265.1 bt265.2.1 bt265.2.2 (glist b).1 (glist b).2.1 ([] : List S96) 0)) else ((incipitlaw08_known.f k).bind fun t279 => (if t279 = true then (if bt265.2.2 = ((glist b).2.2 : Int) then (some ((bt265.1.length : Int) == 0)) else (some false)) else (some false))))) (fun k => ?_) ?_
  · rw [incipitlaw08_ExtentBytes.j0, getF b hb (by omega)]
    rfl
  · refine Ev.bind hd ?_
    unfold decS
    by_cases h : (glist b).2.2 = 0
    · obtain ⟨_, hr, hlen⟩ := glist_rng hb h
      have hrl := glist_rest_len hb h
      simp only [if_pos h, if_pos (show ((glist b).2.2 : Int) = 0 by omega)]
      by_cases h2 : (glist b).1.length % 2 = 0
      · simp only [if_pos h2, if_neg (show ¬ ((glist b).1.length : Int) % 2 = 1 by omega)]
        have := bytes_l (glist b).1 (glist b).2.1 (by omega) h2 (pairs_mem _ (fun x => InK .i64 x) fun x hx => InK.of_i64 (by have := hr x hx; omega) (hr x hx).2) (by omega) _ _ _ rfl ((glist b).1.length / 2) 0 (by omega)
        exact this
      · simp only [if_neg h2, if_pos (show ((glist b).1.length : Int) % 2 = 1 by omega)]
        refine Ev.bind known8 ?_
        simp only [if_true]
        exact Ev.now _
    · simp only [if_neg h, if_neg (show ¬ ((glist b).2.2 : Int) = 0 by omega)]
      refine Ev.bind known8 ?_
      simp only [if_true]
      exact Ev.now _
theorem decS_enc (l : List E) (h : chk l = 0) (hl : l.length ≤ 4096) (b : List Int) : decS (vput (flatE l).length ++ vputs (flatE l) ++ b) = (toE l, b, 0) := by
  have hr := (chk_right l h).1
  have := GL.glist_puts' (flatE l) b (right_rng l hr) (by rw [flatE_len]; omega)
  unfold decS
  rw [this]
  simp only [if_true, pairs_flat, flatE_len]
  rw [if_pos (by omega), if_pos h]
theorem enc_wf (l : List E) : ∀ x ∈ vput (flatE l).length ++ vputs (flatE l), 0 ≤ x ∧ x < 256 := by
  intro x hx
  rcases List.mem_append.1 hx with hx | hx
  · exact (vput_wf _ x hx).u8
  · unfold vputs at hx
    split at hx
    · obtain ⟨y, hy, hx⟩ := List.mem_flatten.1 hx
      obtain ⟨z, _, rfl⟩ := List.mem_map.1 hy
      exact (vput_wf _ x hx).u8
    · cases hx
theorem ExtentBytes (l0 : List S96) (b0 : List Int) (hw : ∀ x ∈ l0, InK .i64 x.f0 ∧ InK .i64 x.f1) (hb0 : ∀ x ∈ b0, InK .u8 x) : ∃ k, incipitlaw08_ExtentBytes.f k l0 b0 = some true := by
  refine Ev.rounds ?_
  obtain ⟨es, rfl, hes⟩ : ∃ es : List E, l0 = toR es ∧ ∀ e ∈ es, InK .i64 e.1 := ⟨l0.map fun s => (s.f0, s.f1), by unfold toR; rw [List.map_map]; exact (List.map_id l0).symm, fun e he => by
    obtain ⟨x, hx, rfl⟩ := List.mem_map.1 he
    exact (hw x hx).1⟩
  have hl : (es.take 30).length ≤ 30 := by rw [List.length_take]; omega
  have hk : ∀ e ∈ es.take 30, InK .i64 e.1 := fun e he => hes e (List.mem_of_mem_take he)
  have hb : ∀ x ∈ b0.take 100, 0 ≤ x ∧ x < 256 := fun x hx => (hb0 x (List.mem_of_mem_take hx)).u8
  have hbl : (b0.take 100).length ≤ 100 := List.length_take_le _ _
  have h1 : 0 ≤ mn (b0.length : Int) 100 := mn_nonneg b0.length 100
  have h2 : mn (b0.length : Int) 100 ≤ (b0.length : Int) := mn_le b0.length 100
  have hm : b0.take (mn (b0.length : Int) 100).toNat = b0.take 100 := take_mn b0 100
  have hto := To_f es
  unfold incipitlaw08_ExtentBytes.f
  refine Ev.bind hto ?_
  generalize es.take 30 = l at *
  refine Ev.bind (law_Of l (by omega)) ?_
  simp only [if_pos h1, if_pos h2, hm]
  generalize b0.take 100 = b at *
  refine Ev.bind (enc_f l (by omega) hk) ?_
  refine Ev.bind (rcheck_f l (by omega) hk) ?_
  unfold encS
  by_cases h : chk l = 0
  · have hr := (chk_right l h).1
    have hel : (vput (flatE l).length ++ vputs (flatE l)).length ≤ 7000 := by
      have e1 := flatE_len l
      have e2 := vput_len 2 (flatE l).length (by omega) (by omega)
      have e3 := vputs_len (flatE l) fun x hx => InK.of_i64 (by have := right_rng l hr x hx; omega) (right_rng l hr x hx).2
      rw [List.length_append]
      omega
    have hd := dec_f (vput (flatE l).length ++ vputs (flatE l) ++ b) (fun x hx => by
      rcases List.mem_append.1 hx with hx | hx
      · exact enc_wf l x hx
      · exact hb x hx) (by rw [List.length_append]; omega)
    rw [decS_enc l h (by omega) b] at hd
    have hre := renc_f l (by omega) hr
    simp only [if_pos h, if_pos h.symm, Option.bind_some, List.nil_append]
    generalize vput (flatE l).length ++ vputs (flatE l) = c at *
    simp only [if_pos (show ([] : List Int).length + c.length < 140737488355328 by simp; omega), if_pos (show c.length + b.length < 140737488355328 by omega)]
    refine Ev.bind hd ?_
    refine Ev.bind hre ?_
    have hs1 := same1 c c (by omega)
    rw [decide_eq_true rfl] at hs1
    refine Ev.bind hs1 ?_
    simp only [if_true]
    refine Ev.bind (law_Of l (by omega)) ?_
    have hs8 := same8 l l (by omega)
    rw [decide_eq_true rfl] at hs8
    refine Ev.bind hs8 ?_
    simp only [if_true]
    have hs2 := same1 b b (by omega)
    rw [decide_eq_true rfl] at hs2
    refine Ev.bind hs2 ?_
    simp only [if_true]
    exact bytes_j b hb (by omega)
  · simp only [if_neg h, if_true]
    exact bytes_j b hb (by omega)
end Go.Proofs.Ytneliajeokajbaa.ExtBPure
