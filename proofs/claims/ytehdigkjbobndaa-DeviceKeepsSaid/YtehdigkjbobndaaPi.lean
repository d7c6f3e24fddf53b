/- A region that draws its order, walked in ONE order: operations that yield the same in every world of a class are taken as soon as they may come up; the others come up one at a time. Over any program. -/
import Derived.Deep.Quiet
import Derived.BigQuiet
import Derived.WalkKit
namespace Go.Proofs.Ytehdigkjbobndaa
open Go.RowKit

section
variable {P : Program} {ops : Array Oper} {md : Region.Mode} {C : World → Prop}

def NoQ : Exit → Act → World → Prop := fun _ _ _ => False
theorem NoQ.lets : ¬ LetsOut NoQ := fun ⟨_, _, h⟩ => h

/-- One value in every world of the class, the world left as it was. -/
def StillC (P : Program) (ops : Array Oper) (C : World → Prop) (o : Oper) (v : Value) (a : Act) : Prop :=
  (Region.wanted o (yielded ops a.tmps) = true ∧ ∀ w, C w → (execOp a.eval o).run P w = .ok (.value v) w) ∨
  (Region.wanted o (yielded ops a.tmps) = false ∧ v = undef)

theorem StillC.wpOp {Q : Exit → Act → World → Prop} {i : Nat} {o : Oper} {v : Value} {a : Act} (hi : ops[i]? = some o) (hy : StillC P ops C o v a) {K : Act → World → Prop} {w : World} (hw : C w) (h : K (a.put o.dst v) w) : wpOp P ops Q i K a w := by
  unfold Go.wpOp
  simp only [hi]
  rcases hy with ⟨hw1, hv⟩ | ⟨hw1, rfl⟩
  · simp only [hw1, if_true, Oper.wp, hv w hw, Oper.upon]; exact .inl h
  · simp only [hw1, Bool.false_eq_true, if_false]; exact h
theorem StillC.of_same {o : Oper} {v : Value} {a a' : Act} (hy : StillC P ops C o v a) (he : execOp a'.eval o = execOp a.eval o)
    (hw : Region.wanted o (yielded ops a'.tmps) = Region.wanted o (yielded ops a.tmps)) : StillC P ops C o v a' := by
  unfold StillC at *
  rw [he, hw]
  exact hy

theorem wp_noq {Q : Exit → Act → World → Prop} {o : Oper} {a : Act} {w : World} {K K' : Act → World → Prop} (h : ∀ a w, K a w → K' a w) (hh : o.wp P a w K NoQ) : o.wp P a w K' Q := by
  unfold Oper.wp at *
  generalize (execOp a.eval o).run P w = r at *
  cases r with
  | ok n w' =>
    cases n <;> simp only [Oper.upon] at hh ⊢ <;>
      first
        | exact h _ _ hh
        | exact Calls.mono hh (fun e w'' he => by
            cases e with
            | returned u => exact h _ _ he
            | panicked c => exact (he : False).elim
            | outgrown => exact (NoQ.lets he).elim)
        | exact Rows.mono hh (fun _ _ he => h _ _ he)
  | halt x w' => cases x <;> simp only [Oper.upon] at hh ⊢ <;> exact (hh : False).elim
theorem wpOp_noq {Q : Exit → Act → World → Prop} {i : Nat} {a : Act} {w : World} {K K' : Act → World → Prop} (h : ∀ a w, K a w → K' a w) (hh : wpOp P ops NoQ i K a w) : wpOp P ops Q i K' a w := by
  unfold wpOp at *
  split
  · rename_i ho; simp only [ho] at hh; exact h _ _ hh
  · rename_i o ho
    simp only [ho] at hh
    split
    · rename_i hw
      simp only [hw, if_true] at hh
      rcases hh with hh | ⟨_, hl⟩
      · exact .inl (wp_noq h hh)
      · exact (NoQ.lets hl).elim
    · rename_i hw; simp only [hw] at hh; exact h _ _ hh

/-- Whatever order is picked; each operation leaves a world of the class. -/
def wpAnyC (P : Program) (md : Region.Mode) (ops : Array Oper) (C : World → Prop) (Q : Act → World → Prop) : Nat → Array Bool → Act → World → Prop
  | 0, listed, a, w => Region.ready md ops listed = [] ∧ Q a w
  | fuel + 1, listed, a, w =>
    (Region.ready md ops listed = [] → Q a w) ∧
    ∀ i ∈ Region.ready md ops listed, wpOp P ops NoQ i (fun a' w' => C w' ∧ wpAnyC P md ops C Q fuel (listed.setIfInBounds i true) a' w') a w

theorem wpAny_of_c {Q : Act → World → Prop} {Q' : Exit → Act → World → Prop} (hQ : ∀ a w, Q a w → Q' .normal a w) : ∀ (fuel : Nat) (listed : Array Bool) (a : Act) (w : World),
    wpAnyC P md ops C Q fuel listed a w → wpAny P md ops Q' fuel listed a w
  | 0, _, _, _, h => ⟨h.1, hQ _ _ h.2⟩
  | fuel + 1, _, _, _, h => ⟨fun h0 => hQ _ _ (h.1 h0), fun i hi => wpOp_noq (fun a' w' hk => wpAny_of_c hQ fuel _ a' w' hk.2) (h.2 i hi)⟩

theorem opC_put {j : Nat} {oi oj : Oper} {v : Value} (hj : ops[j]? = some oj) (hap : oi.apart ops oj = true)
    (hsi : ∀ cs b, oi.op ≠ .select cs b) (hsj : ∀ cs b, oj.op ≠ .select cs b) {K : Act → World → Prop} {a : Act} {w : World}
    (hy : StillC P ops C oi v a) (h : wpOp P ops NoQ j K (a.put oi.dst v) w) :
    wpOp P ops NoQ j (fun a' w' => StillC P ops C oi v a' ∧ K (a'.put oi.dst v) w') a w := by
  obtain ⟨h1, h2, h3⟩ := Oper.apart_spec hap
  have keep : ∀ (a : Act), StillC P ops C oi v a → ∀ u, StillC P ops C oi v (a.put oj.dst u) := fun a hy u =>
    hy.of_same (execOp_put oi hsi a oj.dst u h3) (wanted_put oi a oj.dst u h3)
  have keepD : ∀ d, StillC P ops C oi v { a with defers := d :: a.defers } := fun d => hy.of_same rfl rfl
  unfold wpOp at *
  simp only [hj] at *
  rw [wanted_put oj a oi.dst v h1] at h
  split
  · rename_i hw
    simp only [hw, if_true] at h
    rcases h with h | ⟨_, hl⟩
    case inr => exact (NoQ.lets hl).elim
    refine .inl ?_
    unfold Oper.wp at *
    rw [execOp_put oj hsj a oi.dst v h1] at h
    generalize (execOp a.eval oj).run P w = r at *
    cases r with
    | ok n w' =>
      cases n <;> simp only [Oper.upon] at h ⊢
      case value u => exact ⟨keep a hy u, by rw [← Act.put_comm a v u h2]; exact h⟩
      case skip => exact ⟨keep a hy _, by rw [← Act.put_comm a v undef h2]; exact h⟩
      case defer d =>
        refine ⟨keep _ (keepD d) _, ?_⟩
        rw [← Act.put_comm _ v undef h2, ← Act.put_defers]
        exact h
      case enter f args =>
        refine Calls.mono h fun e w'' he => ?_
        cases e with
        | returned u => exact ⟨keep a hy u, by rw [← Act.put_comm a v u h2]; exact he⟩
        | panicked c => exact (he : False).elim
        | outgrown => exact (NoQ.lets he).elim
      case row row args => exact Rows.mono h fun u w'' he => ⟨keep a hy u, by rw [← Act.put_comm a v u h2]; exact he⟩
    | halt x w' =>
      cases x <;> simp only [Oper.upon] at h ⊢
      case panic u => exact (h : False).elim
  · rename_i hw
    simp only [hw] at h
    exact ⟨keep a hy _, by rw [← Act.put_comm a v undef h2]; exact h⟩

theorem wpAnyC_first {Q : Act → World → Prop} {i : Nat} {oi : Oper} {v : Value} (hi : ops[i]? = some oi) (hsel : ∀ (j : Nat) (o : Oper) cs b, ops[j]? = some o → o.op ≠ .select cs b) :
    ∀ (fuel : Nat) (listed : Array Bool) (a : Act) (w : World), C w →
      (∀ j oj, ops[j]? = some oj → j ≠ i → listed.getD j true = false → (∀ e ∈ oj.after, Region.binds md e = true → e.on ≠ i) → oi.apart ops oj = true) →
      i ∈ Region.ready md ops listed → StillC P ops C oi v a →
      wpAnyC P md ops C Q fuel (listed.setIfInBounds i true) (a.put oi.dst v) w → wpAnyC P md ops C Q (fuel + 1) listed a w := by
  intro fuel
  induction fuel with
  | zero =>
    intro listed a w hC _ hr hy H
    refine ⟨fun h => (by rw [h] at hr; cases hr), fun j hj => ?_⟩
    by_cases hji : j = i
    · subst hji; exact hy.wpOp hi hC ⟨hC, H⟩
    · have := ready_mono hj hji
      rw [H.1] at this
      cases this
  | succ fuel ih =>
    intro listed a w hC hfree hr hy H
    refine ⟨fun h => (by rw [h] at hr; cases hr), fun j hj => ?_⟩
    by_cases hji : j = i
    · subst hji; exact hy.wpOp hi hC ⟨hC, H⟩
    · have h1 := H.2 j (ready_mono hj hji)
      obtain ⟨hjun, oj, hoj, hall⟩ := mem_ready.1 hj
      have hnot : ∀ e ∈ oj.after, Region.binds md e = true → e.on ≠ i := fun e he hb heq => by
        have h1 := hall e he hb
        have h0 := (mem_ready.1 hr).1
        rw [heq] at h1
        rcases Nat.lt_or_ge i listed.size with h' | h'
        · simp [h'] at h0 h1; rw [h0] at h1; cases h1
        · simp [Array.getElem?_eq_none h'] at h1
      have h2 := opC_put hoj (hfree j oj hoj hji hjun hnot) (fun cs b => hsel i oi cs b hi) (fun cs b => hsel j oj cs b hoj) hy h1
      have hfree' : ∀ k ok, ops[k]? = some ok → k ≠ i → (listed.setIfInBounds j true).getD k true = false →
          (∀ e ∈ ok.after, Region.binds md e = true → e.on ≠ i) → oi.apart ops ok = true := fun k ok hk hki hun hno => by
        refine hfree k ok hk hki ?_ hno
        by_cases hjk : j = k
        · subst hjk; exact hjun
        · rw [getD_set_ne true hjk] at hun; exact hun
      refine wpOp_mono (fun a' w' h3 => ⟨h3.2.1, ih (listed.setIfInBounds j true) a' w' h3.2.1 hfree' (ready_mono hr (Ne.symm hji)) h3.1 ?_⟩) h2
      rw [Array.setIfInBounds_comm _ _ hji]
      exact h3.2.2

/-- The walk in one order: (true, o): o yields the same in every world of the class; (false, o): whatever it does. -/
def wpPi (P : Program) (ops : Array Oper) (C : World → Prop) (Q : Act → World → Prop) : List (Bool × Oper) → Act → World → Prop
  | [], a, w => Q a w
  | (true, o) :: r, a, w => ∃ v, StillC P ops C o v a ∧ wpPi P ops C Q r (a.put o.dst v) w
  | (false, o) :: r, a, w => wpList P ops (Exit.then (fun a' w' => C w' ∧ wpPi P ops C Q r a' w') NoQ) [o] a w

/-- The order is one in which each may come up; what is taken early is free; what is not comes up alone. -/
def piB (md : Region.Mode) (ops : Array Oper) : List (Bool × Nat) → Array Bool → Bool
  | [], listed => (Region.ready md ops listed).isEmpty
  | (true, i) :: r, listed => (Region.ready md ops listed).contains i && Region.free md ops listed i && piB md ops r (listed.setIfInBounds i true)
  | (false, i) :: r, listed => (Region.ready md ops listed == [i]) && piB md ops r (listed.setIfInBounds i true)

theorem wpOp_of_list {i : Nat} {o : Oper} (hi : ops[i]? = some o) {K : Act → World → Prop} {a : Act} {w : World} (h : wpList P ops (Exit.then K NoQ) [o] a w) : wpOp P ops NoQ i K a w := by
  unfold wpList at h
  unfold wpOp
  simp only [hi]
  split
  · rename_i hw
    rw [if_pos hw] at h
    rcases h with h | ⟨_, _, _, hl⟩
    · refine .inl ?_
      unfold Oper.wp at *
      generalize (execOp a.eval o).run P w = r at *
      cases r with
      | ok n w' =>
        cases n <;> simp only [Oper.upon] at h ⊢ <;> first
          | exact h
          | exact Calls.mono h (fun e w'' he => by
              cases e with
              | returned u => exact he
              | panicked c => exact (he : False).elim
              | outgrown => obtain ⟨_, _, he⟩ := he; exact (he : False).elim)
      | halt x w' => cases x <;> simp only [Oper.upon] at h ⊢ <;> exact (h : False).elim
    · exact (hl : False).elim
  · rename_i hw
    rw [if_neg hw] at h
    exact h

theorem wpAnyC_pi {Q : Act → World → Prop} (hs : Region.noSelect ops = true) : ∀ (l : List (Bool × Nat)) (lo : List (Bool × Oper)) (listed : Array Bool) (a : Act) (w : World), C w →
    l.map (fun x => (x.1, ops[x.2]?)) = lo.map (fun x => (x.1, some x.2)) → piB md ops l listed = true → wpPi P ops C Q lo a w → wpAnyC P md ops C Q l.length listed a w
  | [], [], _, _, _, _, _, hB, h => ⟨by simpa [piB] using hB, h⟩
  | [], _ :: _, _, _, _, _, hm, _, _ => by simp at hm
  | _ :: _, [], _, _, _, _, hm, _, _ => by simp at hm
  | (b, i) :: l, (b', o) :: lo, listed, a, w, hC, hm, hB, h => by
    simp only [List.map_cons, List.cons.injEq, Prod.mk.injEq] at hm
    obtain ⟨⟨rfl, h0⟩, hm⟩ := hm
    cases b with
    | true =>
      simp only [piB, Bool.and_eq_true] at hB
      obtain ⟨⟨hr, hf⟩, hB'⟩ := hB
      obtain ⟨v, hy, hK⟩ := h
      exact wpAnyC_first h0 (Region.noSelect_spec hs) l.length listed a w hC (Region.free_spec h0 hf) (by simpa using hr) hy
        (wpAnyC_pi hs l lo _ _ w hC hm hB' hK)
    | false =>
      simp only [piB, Bool.and_eq_true, beq_iff_eq] at hB
      obtain ⟨hr, hB'⟩ := hB
      refine ⟨(fun he => by rw [hr] at he; cases he), fun j hj => ?_⟩
      rw [hr] at hj
      obtain rfl := List.mem_singleton.1 hj
      exact wpOp_mono (fun a' w' hk => ⟨hk.1, wpAnyC_pi hs l lo _ a' w' hk.1 hm hB' hk.2⟩) (wpOp_of_list h0 h)

/-- THE LAW. -/
theorem wp_region_pi {id : Nat} {Q : Exit → Act → World → Prop} {a : Act} {w : World} (C : World → Prop) (l : List (Bool × Nat)) (lo : List (Bool × Oper)) (hm : P.follows .mixedOrders = true) (hs : Region.noSelect ops = true)
    (hl : l.length = ops.size) (hlo : l.map (fun x => (x.1, ops[x.2]?)) = lo.map (fun x => (x.1, some x.2))) (hB : piB .any ops l (Array.replicate ops.size false) = true) (hC : C w.drew)
    (h : wpPi P ops C (fun a' w' => Q .normal a' w') lo a w.drew) : (Code.region id ops true).wp P Q a w := by
  refine wp_region_any hm (wpAny_of_c (C := C) (Q := fun a' w' => Q .normal a' w') (fun _ _ h => h) _ _ _ _ ?_)
  have := wpAnyC_pi (md := .any) hs l lo (Array.replicate ops.size false) a w.drew hC hlo hB h
  rwa [hl] at this

/-- The operations in that order, written out. -/
def pick (ops : List Oper) (l : List (Bool × Nat)) : List (Bool × Oper) := l.map fun x => (x.1, (ops[x.2]?).getD default)

theorem wp_region_pick {id : Nat} {Q : Exit → Act → World → Prop} {a : Act} {w : World} {os : List Oper} (C : World → Prop) (l : List (Bool × Nat)) (hm : P.follows .mixedOrders = true) (hs : Region.noSelect os.toArray = true)
    (hl : l.length = os.toArray.size) (hi : (l.all fun x => decide (x.2 < os.length)) = true) (hB : piB .any os.toArray l (Array.replicate os.toArray.size false) = true) (hC : C w.drew)
    (h : wpPi P os.toArray C (fun a' w' => Q .normal a' w') (pick os l) a w.drew) : (Code.region id os.toArray true).wp P Q a w := by
  refine wp_region_pi C l (pick os l) hm hs hl ?_ hB hC h
  unfold pick
  rw [List.map_map]
  refine List.map_congr_left fun x hx => ?_
  have := List.all_eq_true.1 hi x hx
  simp only [decide_eq_true_eq] at this
  simp [List.getElem?_eq_getElem this]

/-- No call of a Go function. -/
def plainB (o : Oper) : Bool :=
  match o.op with
  | .call { callee := .builtin b, .. } => (match b with | .len | .cap | .min | .max => true | _ => false)
  | .call _ | .go _ | .defer _ | .send .. | .recv .. | .select .. | .store .. | .entryStore .. | .mapUpdate .. | .insert .. | .ready _ => false
  | _ => true
theorem plain_value {o : Oper} (hp : plainB o = true) {ρ : Operand → Value} {w w' : World} {n : Next} (h : (execOp ρ o).run P w = .ok n w') : ∃ v, n = .value v := by
  obtain ⟨dst, op, type, pos, after, guard⟩ := o
  have hv : ∀ s : Sem Value, (do pure (Next.value (← s)) : Sem Next).run P w = .ok n w' → ∃ v, n = .value v := by
    intro s hs
    rw [Sem.run_bind] at hs
    cases hr : s.run P w with
    | ok v w2 => rw [hr] at hs; simp [Result.andThen] at hs; exact ⟨v, hs.1.symm⟩
    | halt x w2 => rw [hr] at hs; simp [Result.andThen] at hs
  cases op <;> simp only [plainB, Bool.false_eq_true] at hp <;> simp only [execOp] at h
  all_goals try (exact hv _ h)
  case move x => simp at h; exact ⟨_, h.1.symm⟩
  case assign x => simp at h; exact ⟨_, h.1.symm⟩
  case pick c x y =>
    rw [Sem.run_bind] at h
    cases hr : (asBool (ρ c)).run P w with
    | ok v w2 => rw [hr] at h; simp [Result.andThen] at h; exact ⟨_, h.1.symm⟩
    | halt x w2 => rw [hr] at h; simp [Result.andThen] at h
  case nilCheck x =>
    have hpanic : (runtimePanic .nilDeref : Sem Next).run P w ≠ .ok n w' := by
      intro hx
      simp [runtimePanic, goPanic, Sem.run] at hx
    split at h
    · exact (hpanic h).elim
    · exact (hpanic h).elim
    · exact (hpanic h).elim
    · split at h
      · exact (hpanic h).elim
      · simp [Result.andThen, unsupported] at h
        split at h
        · split at h
          · simp at h; exact ⟨_, h.1.symm⟩
          · simp at h
        · simp at h
      · simp at h; exact ⟨_, h.1.symm⟩
    · simp at h; exact ⟨_, h.1.symm⟩
  case call c =>
    obtain ⟨callee, args, argTypes⟩ := c
    cases callee with
    | builtin b =>
      cases b <;> simp at hp <;> simp only [resolve, Sem.run_bind, Sem.run_pure, Result.andThen, invoke, builtin] at h <;> exact hv _ (by rw [Sem.run_bind]; exact h)
    | value f => simp at hp
    | invoke r m => simp at hp

theorem pi_step {Q : Act → World → Prop} {o : Oper} {r : List (Bool × Oper)} {a : Act} {w : World} (hp : plainB o = true)
    (h : ∀ K : Act → Prop, (∀ a', wpPi P ops C Q r a' w → K a') → wpQuiet P ops C K [o] a) : wpPi P ops C Q ((true, o) :: r) a w := by
  have h1 := h _ fun _ h => h
  unfold wpQuiet at h1
  by_cases hw : Region.wanted o (yielded ops a.tmps) = true
  · rw [if_pos hw] at h1
    obtain ⟨v, hv, hK⟩ := h1
    refine ⟨v, .inl ⟨hw, fun w' hC => ?_⟩, hK⟩
    have h2 := hv w' hC
    unfold Oper.quietAt at h2
    cases hr : (execOp a.eval o).run P w' with
    | ok n w2 =>
      obtain ⟨u, rfl⟩ := plain_value hp hr
      rw [hr] at h2
      obtain ⟨rfl, rfl⟩ := h2
      rfl
    | halt x w2 => rw [hr] at h2; exact h2.elim
  · rw [if_neg hw] at h1
    exact ⟨undef, .inr ⟨by simpa using hw, rfl⟩, h1⟩
theorem pi_do {Q : Act → World → Prop} {o : Oper} {r : List (Bool × Oper)} {a : Act} {w : World}
    (h : ∀ K : Act → World → Prop, (∀ a' w', C w' ∧ wpPi P ops C Q r a' w' → K a' w') → wpList P ops (Exit.then K NoQ) [o] a w) : wpPi P ops C Q ((false, o) :: r) a w :=
  h _ fun _ _ h => h
def oneB (P : Program) (t : TypeId) : Bool := match P.underlying t with | some (.struct _) | some (.array _ _) | none => false | _ => true
theorem run_load_one {w : World} {t : TypeId} {ad : Addr} {v : Value} (ht : oneB P t = true) (hv : w.cell? ad = some v) : (Instr.loadAt t (.pointer (some ad))).run P w = .ok v w := by
  unfold oneB at ht
  cases hu : P.underlying t with
  | none => rw [hu] at ht; cases ht
  | some d =>
    have hagg : (isAgg t).run P w = .ok false w := by
      unfold isAgg
      rw [Sem.run_bind, run_underlying hu w]
      cases d <;> simp_all
    simp [Instr.loadAt, Instr.sureAddr, loadVar, Sem.run_bind, hagg, load, Sem.run, hv]
/-- A load of a cell that is the same in every world of the class. -/
theorem pi_load {Q : Act → World → Prop} {dst : Option Tmp} {ty : TypeId} {pos : String} {after : Array Edge} {guard : Option (Nat × Bool)} {x : Operand} {t : TypeId} {r : List (Bool × Oper)} {a : Act} {w : World} (ad : Addr) (v : Value)
    (hg : Region.wanted { dst := dst, op := .load t x, type := ty, pos := pos, after := after, guard := guard } (yielded ops a.tmps) = true) (hx : a.eval x = .pointer (some ad)) (ht : oneB P t = true)
    (hv : ∀ w, C w → w.cell? ad = some v) (h : wpPi P ops C Q r (a.put dst v) w) :
    wpPi P ops C Q ((true, { dst := dst, op := .load t x, type := ty, pos := pos, after := after, guard := guard }) :: r) a w := by
  refine ⟨v, .inl ⟨hg, fun w' hC => ?_⟩, h⟩
  have := run_load_one (P := P) (t := t) ht (hv w' hC)
  simp [execOp, hx, this, Result.andThen]
theorem pi_nil {Q : Act → World → Prop} {a : Act} {w : World} (h : Q a w) : wpPi P ops C Q [] a w := h
end
end Go.Proofs.Ytehdigkjbobndaa
