/- Several texts in one: Pi, PiT, Base2, Arr, Make, Copy, TreeS, OwnL. -/
import Derived.Deep.Quiet
import Derived.BigQuiet
import Derived.WalkKit
import Derived.Test.YtehdigkjbobndaaBase
import Derived.Deep.OwnRows
import Derived.Laws.MakeOwn
import Derived.Laws.OwnMore
import Derived.Laws.CopyOwn
/- A region that draws its order, walked in ONE order: operations that yield the same in every world of a class are taken as soon as they may come up; the others come up one at a time. Over any program. -/
namespace Go.Proofs.Ytehdigkjbobndaa
open Go.RowKit

section
variable {P : Program} {ops : Array Oper} {md : Region.Mode} {C : World → Prop}

def NoQ : Exit → Act → World → Prop := fun _ _ _ => False
theorem NoQ.lets : ¬ LetsOut NoQ := fun ⟨_, _, h⟩ => h

/-- One value in every world of the class, the world left as it was. -/
def StillC (P : Program) (ops : Array Oper) (C : World → Prop) (o : Oper) (v : Value) (a : Act) : Prop :=
  (Region.wanted o (yielded ops a.tmps) = true ∧ ∀ w, C w → (execOp a.eval o).run P w = .ok (.value v) w) ∨
  (Region.wanted o (yielded ops a.tmps) = false ∧ v = undef)

theorem StillC.wpOp {Q : Exit → Act → World → Prop} {i : Nat} {o : Oper} {v : Value} {a : Act} (hi : ops[i]? = some o) (hy : StillC P ops C o v a) {K : Act → World → Prop} {w : World} (hw : C w) (h : K (a.put o.dst v) w) : wpOp P ops Q i K a w := by
  unfold Go.wpOp
  simp only [hi]
  rcases hy with ⟨hw1, hv⟩ | ⟨hw1, rfl⟩
  · simp only [hw1, if_true, Oper.wp, hv w hw, Oper.upon]; exact .inl h
  · simp only [hw1, Bool.false_eq_true, if_false]; exact h
theorem StillC.of_same {o : Oper} {v : Value} {a a' : Act} (hy : StillC P ops C o v a) (he : execOp a'.eval o = execOp a.eval o)
    (hw : Region.wanted o (yielded ops a'.tmps) = Region.wanted o (yielded ops a.tmps)) : StillC P ops C o v a' := by
  unfold StillC at *
  rw [he, hw]
  exact hy

theorem wp_noq {Q : Exit → Act → World → Prop} {o : Oper} {a : Act} {w : World} {K K' : Act → World → Prop} (h : ∀ a w, K a w → K' a w) (hh : o.wp P a w K NoQ) : o.wp P a w K' Q := by
  unfold Oper.wp at *
  generalize (execOp a.eval o).run P w = r at *
  cases r with
  | ok n w' =>
    cases n <;> simp only [Oper.upon] at hh ⊢ <;>
      first
        | exact h _ _ hh
        | exact Calls.mono hh (fun e w'' he => by
            cases e with
            | returned u => exact h _ _ he
            | panicked c => exact (he : False).elim
            | outgrown => exact (NoQ.lets he).elim)
        | exact Rows.mono hh (fun _ _ he => h _ _ he)
  | halt x w' => cases x <;> simp only [Oper.upon] at hh ⊢ <;> exact (hh : False).elim
theorem wpOp_noq {Q : Exit → Act → World → Prop} {i : Nat} {a : Act} {w : World} {K K' : Act → World → Prop} (h : ∀ a w, K a w → K' a w) (hh : wpOp P ops NoQ i K a w) : wpOp P ops Q i K' a w := by
  unfold wpOp at *
  split
  · rename_i ho; simp only [ho] at hh; exact h _ _ hh
  · rename_i o ho
    simp only [ho] at hh
    split
    · rename_i hw
      simp only [hw, if_true] at hh
      rcases hh with hh | ⟨_, hl⟩
      · exact .inl (wp_noq h hh)
      · exact (NoQ.lets hl).elim
    · rename_i hw; simp only [hw] at hh; exact h _ _ hh

/-- Whatever order is picked; each operation leaves a world of the class. -/
def wpAnyC (P : Program) (md : Region.Mode) (ops : Array Oper) (C : World → Prop) (Q : Act → World → Prop) : Nat → Array Bool → Act → World → Prop
  | 0, listed, a, w => Region.ready md ops listed = [] ∧ Q a w
  | fuel + 1, listed, a, w =>
    (Region.ready md ops listed = [] → Q a w) ∧
    ∀ i ∈ Region.ready md ops listed, wpOp P ops NoQ i (fun a' w' => C w' ∧ wpAnyC P md ops C Q fuel (listed.setIfInBounds i true) a' w') a w

theorem wpAny_of_c {Q : Act → World → Prop} {Q' : Exit → Act → World → Prop} (hQ : ∀ a w, Q a w → Q' .normal a w) : ∀ (fuel : Nat) (listed : Array Bool) (a : Act) (w : World),
    wpAnyC P md ops C Q fuel listed a w → wpAny P md ops Q' fuel listed a w
  | 0, _, _, _, h => ⟨h.1, hQ _ _ h.2⟩
  | fuel + 1, _, _, _, h => ⟨fun h0 => hQ _ _ (h.1 h0), fun i hi => wpOp_noq (fun a' w' hk => wpAny_of_c hQ fuel _ a' w' hk.2) (h.2 i hi)⟩

theorem opC_put {j : Nat} {oi oj : Oper} {v : Value} (hj : ops[j]? = some oj) (hap : oi.apart ops oj = true)
    (hsi : ∀ cs b, oi.op ≠ .select cs b) (hsj : ∀ cs b, oj.op ≠ .select cs b) {K : Act → World → Prop} {a : Act} {w : World}
    (hy : StillC P ops C oi v a) (h : wpOp P ops NoQ j K (a.put oi.dst v) w) :
    wpOp P ops NoQ j (fun a' w' => StillC P ops C oi v a' ∧ K (a'.put oi.dst v) w') a w := by
  obtain ⟨h1, h2, h3⟩ := Oper.apart_spec hap
  have keep : ∀ (a : Act), StillC P ops C oi v a → ∀ u, StillC P ops C oi v (a.put oj.dst u) := fun a hy u =>
    hy.of_same (execOp_put oi hsi a oj.dst u h3) (wanted_put oi a oj.dst u h3)
  have keepD : ∀ d, StillC P ops C oi v { a with defers := d :: a.defers } := fun d => hy.of_same rfl rfl
  unfold wpOp at *
  simp only [hj] at *
  rw [wanted_put oj a oi.dst v h1] at h
  split
  · rename_i hw
    simp only [hw, if_true] at h
    rcases h with h | ⟨_, hl⟩
    case inr => exact (NoQ.lets hl).elim
    refine .inl ?_
    unfold Oper.wp at *
    rw [execOp_put oj hsj a oi.dst v h1] at h
    generalize (execOp a.eval oj).run P w = r at *
    cases r with
    | ok n w' =>
      cases n <;> simp only [Oper.upon] at h ⊢
      case value u => exact ⟨keep a hy u, by rw [← Act.put_comm a v u h2]; exact h⟩
      case skip => exact ⟨keep a hy _, by rw [← Act.put_comm a v undef h2]; exact h⟩
      case defer d =>
        refine ⟨keep _ (keepD d) _, ?_⟩
        rw [← Act.put_comm _ v undef h2, ← Act.put_defers]
        exact h
      case enter f args =>
        refine Calls.mono h fun e w'' he => ?_
        cases e with
        | returned u => exact ⟨keep a hy u, by rw [← Act.put_comm a v u h2]; exact he⟩
        | panicked c => exact (he : False).elim
        | outgrown => exact (NoQ.lets he).elim
      case row row args => exact Rows.mono h fun u w'' he => ⟨keep a hy u, by rw [← Act.put_comm a v u h2]; exact he⟩
    | halt x w' =>
      cases x <;> simp only [Oper.upon] at h ⊢
      case panic u => exact (h : False).elim
  · rename_i hw
    simp only [hw] at h
    exact ⟨keep a hy _, by rw [← Act.put_comm a v undef h2]; exact h⟩

theorem wpAnyC_first {Q : Act → World → Prop} {i : Nat} {oi : Oper} {v : Value} (hi : ops[i]? = some oi) (hsel : ∀ (j : Nat) (o : Oper) cs b, ops[j]? = some o → o.op ≠ .select cs b) :
    ∀ (fuel : Nat) (listed : Array Bool) (a : Act) (w : World), C w →
      (∀ j oj, ops[j]? = some oj → j ≠ i → listed.getD j true = false → (∀ e ∈ oj.after, Region.binds md e = true → e.on ≠ i) → oi.apart ops oj = true) →
      i ∈ Region.ready md ops listed → StillC P ops C oi v a →
      wpAnyC P md ops C Q fuel (listed.setIfInBounds i true) (a.put oi.dst v) w → wpAnyC P md ops C Q (fuel + 1) listed a w := by
  intro fuel
  induction fuel with
  | zero =>
    intro listed a w hC _ hr hy H
    refine ⟨fun h => (by rw [h] at hr; cases hr), fun j hj => ?_⟩
    by_cases hji : j = i
    · subst hji; exact hy.wpOp hi hC ⟨hC, H⟩
    · have := ready_mono hj hji
      rw [H.1] at this
      cases this
  | succ fuel ih =>
    intro listed a w hC hfree hr hy H
    refine ⟨fun h => (by rw [h] at hr; cases hr), fun j hj => ?_⟩
    by_cases hji : j = i
    · subst hji; exact hy.wpOp hi hC ⟨hC, H⟩
    · have h1 := H.2 j (ready_mono hj hji)
      obtain ⟨hjun, oj, hoj, hall⟩ := mem_ready.1 hj
      have hnot : ∀ e ∈ oj.after, Region.binds md e = true → e.on ≠ i := fun e he hb heq => by
        have h1 := hall e he hb
        have h0 := (mem_ready.1 hr).1
        rw [heq] at h1
        rcases Nat.lt_or_ge i listed.size with h' | h'
        · simp [h'] at h0 h1; rw [h0] at h1; cases h1
        · simp [Array.getElem?_eq_none h'] at h1
      have h2 := opC_put hoj (hfree j oj hoj hji hjun hnot) (fun cs b => hsel i oi cs b hi) (fun cs b => hsel j oj cs b hoj) hy h1
      have hfree' : ∀ k ok, ops[k]? = some ok → k ≠ i → (listed.setIfInBounds j true).getD k true = false →
          (∀ e ∈ ok.after, Region.binds md e = true → e.on ≠ i) → oi.apart ops ok = true := fun k ok hk hki hun hno => by
        refine hfree k ok hk hki ?_ hno
        by_cases hjk : j = k
        · subst hjk; exact hjun
        · rw [getD_set_ne true hjk] at hun; exact hun
      refine wpOp_mono (fun a' w' h3 => ⟨h3.2.1, ih (listed.setIfInBounds j true) a' w' h3.2.1 hfree' (ready_mono hr (Ne.symm hji)) h3.1 ?_⟩) h2
      rw [Array.setIfInBounds_comm _ _ hji]
      exact h3.2.2

/-- The walk in one order: (true, o): o yields the same in every world of the class; (false, o): whatever it does. -/
def wpPi (P : Program) (ops : Array Oper) (C : World → Prop) (Q : Act → World → Prop) : List (Bool × Oper) → Act → World → Prop
  | [], a, w => Q a w
  | (true, o) :: r, a, w => ∃ v, StillC P ops C o v a ∧ wpPi P ops C Q r (a.put o.dst v) w
  | (false, o) :: r, a, w => wpList P ops (Exit.then (fun a' w' => C w' ∧ wpPi P ops C Q r a' w') NoQ) [o] a w

/-- The order is one in which each may come up; what is taken early is free; what is not comes up alone. -/
def piB (md : Region.Mode) (ops : Array Oper) : List (Bool × Nat) → Array Bool → Bool
  | [], listed => (Region.ready md ops listed).isEmpty
  | (true, i) :: r, listed => (Region.ready md ops listed).contains i && Region.free md ops listed i && piB md ops r (listed.setIfInBounds i true)
  | (false, i) :: r, listed => (Region.ready md ops listed == [i]) && piB md ops r (listed.setIfInBounds i true)

theorem wpOp_of_list {i : Nat} {o : Oper} (hi : ops[i]? = some o) {K : Act → World → Prop} {a : Act} {w : World} (h : wpList P ops (Exit.then K NoQ) [o] a w) : wpOp P ops NoQ i K a w := by
  unfold wpList at h
  unfold wpOp
  simp only [hi]
  split
  · rename_i hw
    rw [if_pos hw] at h
    rcases h with h | ⟨_, _, _, hl⟩
    · refine .inl ?_
      unfold Oper.wp at *
      generalize (execOp a.eval o).run P w = r at *
      cases r with
      | ok n w' =>
        cases n <;> simp only [Oper.upon] at h ⊢ <;> first
          | exact h
          | exact Calls.mono h (fun e w'' he => by
              cases e with
              | returned u => exact he
              | panicked c => exact (he : False).elim
              | outgrown => obtain ⟨_, _, he⟩ := he; exact (he : False).elim)
      | halt x w' => cases x <;> simp only [Oper.upon] at h ⊢ <;> exact (h : False).elim
    · exact (hl : False).elim
  · rename_i hw
    rw [if_neg hw] at h
    exact h

theorem wpAnyC_pi {Q : Act → World → Prop} (hs : Region.noSelect ops = true) : ∀ (l : List (Bool × Nat)) (lo : List (Bool × Oper)) (listed : Array Bool) (a : Act) (w : World), C w →
    l.map (fun x => (x.1, ops[x.2]?)) = lo.map (fun x => (x.1, some x.2)) → piB md ops l listed = true → wpPi P ops C Q lo a w → wpAnyC P md ops C Q l.length listed a w
  | [], [], _, _, _, _, _, hB, h => ⟨by simpa [piB] using hB, h⟩
  | [], _ :: _, _, _, _, _, hm, _, _ => by simp at hm
  | _ :: _, [], _, _, _, _, hm, _, _ => by simp at hm
  | (b, i) :: l, (b', o) :: lo, listed, a, w, hC, hm, hB, h => by
    simp only [List.map_cons, List.cons.injEq, Prod.mk.injEq] at hm
    obtain ⟨⟨rfl, h0⟩, hm⟩ := hm
    cases b with
    | true =>
      simp only [piB, Bool.and_eq_true] at hB
      obtain ⟨⟨hr, hf⟩, hB'⟩ := hB
      obtain ⟨v, hy, hK⟩ := h
      exact wpAnyC_first h0 (Region.noSelect_spec hs) l.length listed a w hC (Region.free_spec h0 hf) (by simpa using hr) hy
        (wpAnyC_pi hs l lo _ _ w hC hm hB' hK)
    | false =>
      simp only [piB, Bool.and_eq_true, beq_iff_eq] at hB
      obtain ⟨hr, hB'⟩ := hB
      refine ⟨(fun he => by rw [hr] at he; cases he), fun j hj => ?_⟩
      rw [hr] at hj
      obtain rfl := List.mem_singleton.1 hj
      exact wpOp_mono (fun a' w' hk => ⟨hk.1, wpAnyC_pi hs l lo _ a' w' hk.1 hm hB' hk.2⟩) (wpOp_of_list h0 h)

/-- THE LAW. -/
theorem wp_region_pi {id : Nat} {Q : Exit → Act → World → Prop} {a : Act} {w : World} (C : World → Prop) (l : List (Bool × Nat)) (lo : List (Bool × Oper)) (hm : P.follows .mixedOrders = true) (hs : Region.noSelect ops = true)
    (hl : l.length = ops.size) (hlo : l.map (fun x => (x.1, ops[x.2]?)) = lo.map (fun x => (x.1, some x.2))) (hB : piB .any ops l (Array.replicate ops.size false) = true) (hC : C w.drew)
    (h : wpPi P ops C (fun a' w' => Q .normal a' w') lo a w.drew) : (Code.region id ops true).wp P Q a w := by
  refine wp_region_any hm (wpAny_of_c (C := C) (Q := fun a' w' => Q .normal a' w') (fun _ _ h => h) _ _ _ _ ?_)
  have := wpAnyC_pi (md := .any) hs l lo (Array.replicate ops.size false) a w.drew hC hlo hB h
  rwa [hl] at this

/-- The operations in that order, written out. -/
def pick (ops : List Oper) (l : List (Bool × Nat)) : List (Bool × Oper) := l.map fun x => (x.1, (ops[x.2]?).getD default)

theorem wp_region_pick {id : Nat} {Q : Exit → Act → World → Prop} {a : Act} {w : World} {os : List Oper} (C : World → Prop) (l : List (Bool × Nat)) (hm : P.follows .mixedOrders = true) (hs : Region.noSelect os.toArray = true)
    (hl : l.length = os.toArray.size) (hi : (l.all fun x => decide (x.2 < os.length)) = true) (hB : piB .any os.toArray l (Array.replicate os.toArray.size false) = true) (hC : C w.drew)
    (h : wpPi P os.toArray C (fun a' w' => Q .normal a' w') (pick os l) a w.drew) : (Code.region id os.toArray true).wp P Q a w := by
  refine wp_region_pi C l (pick os l) hm hs hl ?_ hB hC h
  unfold pick
  rw [List.map_map]
  refine List.map_congr_left fun x hx => ?_
  have := List.all_eq_true.1 hi x hx
  simp only [decide_eq_true_eq] at this
  simp [List.getElem?_eq_getElem this]

/-- No call of a Go function. -/
def plainB (o : Oper) : Bool :=
  match o.op with
  | .call { callee := .builtin b, .. } => (match b with | .len | .cap | .min | .max => true | _ => false)
  | .call _ | .go _ | .defer _ | .send .. | .recv .. | .select .. | .store .. | .entryStore .. | .mapUpdate .. | .insert .. | .ready _ => false
  | _ => true
theorem plain_value {o : Oper} (hp : plainB o = true) {ρ : Operand → Value} {w w' : World} {n : Next} (h : (execOp ρ o).run P w = .ok n w') : ∃ v, n = .value v := by
  obtain ⟨dst, op, type, pos, after, guard⟩ := o
  have hv : ∀ s : Sem Value, (do pure (Next.value (← s)) : Sem Next).run P w = .ok n w' → ∃ v, n = .value v := by
    intro s hs
    rw [Sem.run_bind] at hs
    cases hr : s.run P w with
    | ok v w2 => rw [hr] at hs; simp [Result.andThen] at hs; exact ⟨v, hs.1.symm⟩
    | halt x w2 => rw [hr] at hs; simp [Result.andThen] at hs
  cases op <;> simp only [plainB, Bool.false_eq_true] at hp <;> simp only [execOp] at h
  all_goals try (exact hv _ h)
  case move x => simp at h; exact ⟨_, h.1.symm⟩
  case assign x => simp at h; exact ⟨_, h.1.symm⟩
  case pick c x y =>
    rw [Sem.run_bind] at h
    cases hr : (asBool (ρ c)).run P w with
    | ok v w2 => rw [hr] at h; simp [Result.andThen] at h; exact ⟨_, h.1.symm⟩
    | halt x w2 => rw [hr] at h; simp [Result.andThen] at h
  case nilCheck x =>
    have hpanic : (runtimePanic .nilDeref : Sem Next).run P w ≠ .ok n w' := by
      intro hx
      simp [runtimePanic, goPanic, Sem.run] at hx
    split at h
    · exact (hpanic h).elim
    · exact (hpanic h).elim
    · exact (hpanic h).elim
    · split at h
      · exact (hpanic h).elim
      · simp [Result.andThen, unsupported] at h
        split at h
        · split at h
          · simp at h; exact ⟨_, h.1.symm⟩
          · simp at h
        · simp at h
      · simp at h; exact ⟨_, h.1.symm⟩
    · simp at h; exact ⟨_, h.1.symm⟩
  case call c =>
    obtain ⟨callee, args, argTypes⟩ := c
    cases callee with
    | builtin b =>
      cases b <;> simp at hp <;> simp only [resolve, Sem.run_bind, Sem.run_pure, Result.andThen, invoke, builtin] at h <;> exact hv _ (by rw [Sem.run_bind]; exact h)
    | value f => simp at hp
    | invoke r m => simp at hp

theorem pi_step {Q : Act → World → Prop} {o : Oper} {r : List (Bool × Oper)} {a : Act} {w : World} (hp : plainB o = true)
    (h : ∀ K : Act → Prop, (∀ a', wpPi P ops C Q r a' w → K a') → wpQuiet P ops C K [o] a) : wpPi P ops C Q ((true, o) :: r) a w := by
  have h1 := h _ fun _ h => h
  unfold wpQuiet at h1
  by_cases hw : Region.wanted o (yielded ops a.tmps) = true
  · rw [if_pos hw] at h1
    obtain ⟨v, hv, hK⟩ := h1
    refine ⟨v, .inl ⟨hw, fun w' hC => ?_⟩, hK⟩
    have h2 := hv w' hC
    unfold Oper.quietAt at h2
    cases hr : (execOp a.eval o).run P w' with
    | ok n w2 =>
      obtain ⟨u, rfl⟩ := plain_value hp hr
      rw [hr] at h2
      obtain ⟨rfl, rfl⟩ := h2
      rfl
    | halt x w2 => rw [hr] at h2; exact h2.elim
  · rw [if_neg hw] at h1
    exact ⟨undef, .inr ⟨by simpa using hw, rfl⟩, h1⟩
theorem pi_do {Q : Act → World → Prop} {o : Oper} {r : List (Bool × Oper)} {a : Act} {w : World}
    (h : ∀ K : Act → World → Prop, (∀ a' w', C w' ∧ wpPi P ops C Q r a' w' → K a' w') → wpList P ops (Exit.then K NoQ) [o] a w) : wpPi P ops C Q ((false, o) :: r) a w :=
  h _ fun _ _ h => h
def oneB (P : Program) (t : TypeId) : Bool := match P.underlying t with | some (.struct _) | some (.array _ _) | none => false | _ => true
theorem run_load_one {w : World} {t : TypeId} {ad : Addr} {v : Value} (ht : oneB P t = true) (hv : w.cell? ad = some v) : (Instr.loadAt t (.pointer (some ad))).run P w = .ok v w := by
  unfold oneB at ht
  cases hu : P.underlying t with
  | none => rw [hu] at ht; cases ht
  | some d =>
    have hagg : (isAgg t).run P w = .ok false w := by
      unfold isAgg
      rw [Sem.run_bind, run_underlying hu w]
      cases d <;> simp_all
    simp [Instr.loadAt, Instr.sureAddr, loadVar, Sem.run_bind, hagg, load, Sem.run, hv]
/-- A load of a cell that is the same in every world of the class. -/
theorem pi_load {Q : Act → World → Prop} {dst : Option Tmp} {ty : TypeId} {pos : String} {after : Array Edge} {guard : Option (Nat × Bool)} {x : Operand} {t : TypeId} {r : List (Bool × Oper)} {a : Act} {w : World} (ad : Addr) (v : Value)
    (hg : Region.wanted { dst := dst, op := .load t x, type := ty, pos := pos, after := after, guard := guard } (yielded ops a.tmps) = true) (hx : a.eval x = .pointer (some ad)) (ht : oneB P t = true)
    (hv : ∀ w, C w → w.cell? ad = some v) (h : wpPi P ops C Q r (a.put dst v) w) :
    wpPi P ops C Q ((true, { dst := dst, op := .load t x, type := ty, pos := pos, after := after, guard := guard }) :: r) a w := by
  refine ⟨v, .inl ⟨hg, fun w' hC => ?_⟩, h⟩
  have := run_load_one (P := P) (t := t) ht (hv w' hC)
  simp [execOp, hx, this, Result.andThen]
theorem pi_nil {Q : Act → World → Prop} {a : Act} {w : World} (h : Q a w) : wpPi P ops C Q [] a w := h
end
end Go.Proofs.Ytehdigkjbobndaa

/- A region that draws its order, where at some points several operations may come up: a tree of the orders. Over any program. -/
namespace Go.Proofs.Ytehdigkjbobndaa
open Go.RowKit

/-- The orders: 'quiet': an operation that yields the same in every world of the class; 'alt': one that may come up now, what follows, and the others that may come up instead; 'stop': there are no others. -/
inductive Tree (α : Type) where
  | nil : Tree α
  | quiet : α → Tree α → Tree α
  | alt : α → Tree α → Tree α → Tree α
  | stop : Tree α

section
variable {P : Program} {ops : Array Oper} {md : Region.Mode} {C : World → Prop}

/-- What is listed has all it comes behind listed. -/
def Closed (md : Region.Mode) (ops : Array Oper) (listed : Array Bool) : Prop :=
  ∀ k ok, ops[k]? = some ok → listed.getD k true = true → ∀ e ∈ ok.after, Region.binds md e = true → listed.getD e.on false = true
/-- Where it may come up all others are listed. -/
def Last (md : Region.Mode) (ops : Array Oper) (j : Nat) : Prop :=
  ∀ listed, Closed md ops listed → j ∈ Region.ready md ops listed → ∀ k, k < ops.size → k ≠ j → listed.getD k true = true
theorem getD_set_false {listed : Array Bool} {i k : Nat} (h : listed.getD k false = true) : (listed.setIfInBounds i true).getD k false = true := by
  by_cases hk : k = i
  · subst hk
    rcases Nat.lt_or_ge k listed.size with h' | h'
    · simp [h']
    · simp [Array.getElem?_eq_none h'] at h
  · rw [getD_set_ne false (fun e => hk e.symm)]
    exact h
theorem Closed.set {listed : Array Bool} (h : Closed md ops listed) {i : Nat} (hi : i ∈ Region.ready md ops listed) : Closed md ops (listed.setIfInBounds i true) := by
  intro k ok hk hl e he hb
  refine getD_set_false ?_
  obtain ⟨_, oi, hoi, hall⟩ := mem_ready.1 hi
  by_cases hki : k = i
  · subst hki
    rw [hoi] at hk
    obtain rfl := Option.some.inj hk
    exact hall e he hb
  · rw [getD_set_ne true (fun e => hki e.symm)] at hl
    exact h k ok hk hl e he hb
theorem Closed.start (n : Nat) (hn : n = ops.size) : Closed md ops (Array.replicate n false) := by
  intro k ok hk hl
  subst hn
  have h1 := (Array.getElem?_eq_some_iff.1 hk).1
  simp [Array.getD, h1] at hl
/-- s comes behind k. -/
def edgeB (md : Region.Mode) (ops : Array Oper) (s k : Nat) : Bool := match ops[s]? with | some o => o.after.any fun e => Region.binds md e && e.on == k | none => false
def lastB (md : Region.Mode) (ops : Array Oper) : List Nat → List Nat → Bool
  | [], seen => (List.range ops.size).all fun k => seen.contains k
  | k :: r, seen => (seen.any fun s => edgeB md ops s k) && lastB md ops r (k :: seen)
theorem lastB_spec {listed : Array Bool} (hc : Closed md ops listed) : ∀ (r seen : List Nat), lastB md ops r seen = true →
    (∀ s ∈ seen, ∀ os, ops[s]? = some os → ∀ e ∈ os.after, Region.binds md e = true → listed.getD e.on false = true) →
    ∀ k, k < ops.size → ∃ l : List Nat, k ∈ l ∧ ∀ s ∈ l, s ∈ seen ∨ listed.getD s true = true
  | [], seen, h, _, k, hk => by
    simp only [lastB, List.all_eq_true, List.mem_range] at h
    exact ⟨[k], by simp, fun s hs => .inl (by rw [List.mem_singleton.1 hs]; simpa using h k hk)⟩
  | m :: r, seen, h, hp, k, hk => by
    rw [lastB, Bool.and_eq_true] at h
    obtain ⟨s, hs, he⟩ := List.any_eq_true.1 h.1
    unfold edgeB at he
    cases ho : ops[s]? with
    | none => rw [ho] at he; cases he
    | some os =>
      rw [ho] at he
      obtain ⟨i, hi, he⟩ := Array.any_eq_true.1 he
      rw [Bool.and_eq_true, beq_iff_eq] at he
      have h1 := hp s hs os ho _ (Array.getElem_mem hi) he.1
      rw [he.2] at h1
      have h2 : listed.getD m true = true := by
        rcases Nat.lt_or_ge m listed.size with h' | h'
        · simp [h'] at h1 ⊢; exact h1
        · simp [Array.getElem?_eq_none h'] at h1
      obtain ⟨l, hk1, hl⟩ := lastB_spec hc r (m :: seen) h.2 (fun s' hs' os' ho' e' he' hb' => by
        rcases List.mem_cons.1 hs' with h9 | h9
        · subst h9; exact hc s' os' ho' h2 e' he' hb'
        · exact hp s' h9 os' ho' e' he' hb') k hk
      refine ⟨l, hk1, fun s hs => ?_⟩
      rcases hl s hs with h3 | h3
      · rcases List.mem_cons.1 h3 with rfl | h3
        · exact .inr h2
        · exact .inl h3
      · exact .inr h3
theorem Last.of {j : Nat} {r : List Nat} (h : lastB md ops r [j] = true) : Last md ops j := by
  intro listed hc hj k hk hkj
  obtain ⟨_, oj, hoj, hall⟩ := mem_ready.1 hj
  obtain ⟨l, h1, h2⟩ := lastB_spec hc r [j] h (fun s hs os ho e he hb => by
    rw [List.mem_singleton.1 hs, hoj] at ho
    obtain rfl := Option.some.inj ho
    exact hall e he hb) k hk
  rcases h2 k h1 with h3 | h3
  · exact absurd (List.mem_singleton.1 h3) hkj
  · exact h3

/-- Whatever order is picked; each operation but the last one leaves a world of the class. -/
def wpAnyD (P : Program) (md : Region.Mode) (ops : Array Oper) (C : World → Prop) (Q : Act → World → Prop) : Nat → Array Bool → Act → World → Prop
  | 0, listed, a, w => Region.ready md ops listed = [] ∧ Q a w
  | fuel + 1, listed, a, w =>
    (Region.ready md ops listed = [] → Q a w) ∧
    ∀ i ∈ Region.ready md ops listed, wpOp P ops NoQ i (fun a' w' => (Last md ops i ∨ C w') ∧ wpAnyD P md ops C Q fuel (listed.setIfInBounds i true) a' w') a w

theorem wpAny_of_d {Q : Act → World → Prop} {Q' : Exit → Act → World → Prop} (hQ : ∀ a w, Q a w → Q' .normal a w) : ∀ (fuel : Nat) (listed : Array Bool) (a : Act) (w : World),
    wpAnyD P md ops C Q fuel listed a w → wpAny P md ops Q' fuel listed a w
  | 0, _, _, _, h => ⟨h.1, hQ _ _ h.2⟩
  | fuel + 1, _, _, _, h => ⟨fun h0 => hQ _ _ (h.1 h0), fun i hi => wpOp_noq (fun a' w' hk => wpAny_of_d hQ fuel _ a' w' hk.2) (h.2 i hi)⟩

theorem wpAnyD_first {Q : Act → World → Prop} {i : Nat} {oi : Oper} {v : Value} (hi : ops[i]? = some oi) (hsel : ∀ (j : Nat) (o : Oper) cs b, ops[j]? = some o → o.op ≠ .select cs b) :
    ∀ (fuel : Nat) (listed : Array Bool) (a : Act) (w : World), C w → Closed md ops listed →
      (∀ j oj, ops[j]? = some oj → j ≠ i → listed.getD j true = false → (∀ e ∈ oj.after, Region.binds md e = true → e.on ≠ i) → oi.apart ops oj = true) →
      i ∈ Region.ready md ops listed → StillC P ops C oi v a →
      wpAnyD P md ops C Q fuel (listed.setIfInBounds i true) (a.put oi.dst v) w → wpAnyD P md ops C Q (fuel + 1) listed a w := by
  intro fuel
  induction fuel with
  | zero =>
    intro listed a w hC hcl _ hr hy H
    refine ⟨fun h => (by rw [h] at hr; cases hr), fun j hj => ?_⟩
    by_cases hji : j = i
    · subst hji; exact hy.wpOp hi hC ⟨.inr hC, H⟩
    · have := ready_mono hj hji
      rw [H.1] at this
      cases this
  | succ fuel ih =>
    intro listed a w hC hcl hfree hr hy H
    refine ⟨fun h => (by rw [h] at hr; cases hr), fun j hj => ?_⟩
    by_cases hji : j = i
    · subst hji; exact hy.wpOp hi hC ⟨.inr hC, H⟩
    · have h1 := H.2 j (ready_mono hj hji)
      obtain ⟨hjun, oj, hoj, hall⟩ := mem_ready.1 hj
      have hnot : ∀ e ∈ oj.after, Region.binds md e = true → e.on ≠ i := fun e he hb heq => by
        have h1 := hall e he hb
        have h0 := (mem_ready.1 hr).1
        rw [heq] at h1
        rcases Nat.lt_or_ge i listed.size with h' | h'
        · simp [h'] at h0 h1; rw [h0] at h1; cases h1
        · simp [Array.getElem?_eq_none h'] at h1
      have h2 := opC_put hoj (hfree j oj hoj hji hjun hnot) (fun cs b => hsel i oi cs b hi) (fun cs b => hsel j oj cs b hoj) hy h1
      have hfree' : ∀ k ok, ops[k]? = some ok → k ≠ i → (listed.setIfInBounds j true).getD k true = false →
          (∀ e ∈ ok.after, Region.binds md e = true → e.on ≠ i) → oi.apart ops ok = true := fun k ok hk hki hun hno => by
        refine hfree k ok hk hki ?_ hno
        by_cases hjk : j = k
        · subst hjk; exact hjun
        · rw [getD_set_ne true hjk] at hun; exact hun
      refine wpOp_mono (fun a' w' h3 => ?_) h2
      rcases h3.2.1 with h0 | hC'
      · have h1 := h0 listed hcl hj i (Array.getElem?_eq_some_iff.1 hi).1 (fun e => hji e.symm)
        rw [(mem_ready.1 hr).1] at h1
        cases h1
      · refine ⟨.inr hC', ih (listed.setIfInBounds j true) a' w' hC' (hcl.set hj) hfree' (ready_mono hr (Ne.symm hji)) h3.1 ?_⟩
        rw [Array.setIfInBounds_comm _ _ hji]
        exact h3.2.2

/-- Behind the last operation nothing is asked. -/
def Tree.aft {α : Type} (t : Tree α) (C : Prop) : Prop :=
  match t with
  | .nil => True
  | _ => C
def wpTree (P : Program) (ops : Array Oper) (C : World → Prop) (Q : Act → World → Prop) : Tree Oper → Act → World → Prop
  | .nil, a, w => Q a w
  | .quiet o r, a, w => ∃ v, StillC P ops C o v a ∧ wpTree P ops C Q r (a.put o.dst v) w
  | .alt o t r, a, w => wpList P ops (Exit.then (fun a' w' => t.aft (C w') ∧ wpTree P ops C Q t a' w') NoQ) [o] a w ∧ wpTree P ops C Q r a w
  | .stop, _, _ => True

/-- A tree's head may stand where nothing was spoken of yet. -/
def Tree.isNode {α : Type} : Tree α → Bool
  | .nil => true
  | .quiet _ _ => true
  | .alt _ _ _ => false
  | .stop => false

def Tree.isNil {α : Type} : Tree α → Bool
  | .nil => true
  | _ => false
/-- The tree's orders are those that may be; n operations are left; 'done': what may come up now and was spoken of. -/
def treeB (md : Region.Mode) (ops : Array Oper) : Tree Nat → Nat → Array Bool → List Nat → List Nat → Bool
  | .nil, n, listed, _, _ => (Region.ready md ops listed).isEmpty && n == 0
  | .quiet i r, n, listed, _, path => (Region.ready md ops listed).contains i && Region.free md ops listed i && n != 0 && treeB md ops r (n - 1) (listed.setIfInBounds i true) [] (i :: path)
  | .alt i t r, n, listed, done, path => n != 0 && !r.isNode && (!t.isNil || lastB md ops path [i]) && treeB md ops t (n - 1) (listed.setIfInBounds i true) [] (i :: path) && treeB md ops r n listed (i :: done) path
  | .stop, _, listed, done, _ => !(Region.ready md ops listed).isEmpty && (Region.ready md ops listed).all fun i => done.contains i

inductive TreeRel (ops : Array Oper) : Tree Nat → Tree Oper → Prop where
  | nil : TreeRel ops .nil .nil
  | quiet {i o r r'} : ops[i]? = some o → TreeRel ops r r' → TreeRel ops (.quiet i r) (.quiet o r')
  | alt {i o t t' r r'} : ops[i]? = some o → TreeRel ops t t' → TreeRel ops r r' → TreeRel ops (.alt i t r) (.alt o t' r')
  | stop : TreeRel ops .stop .stop

theorem wpAnyD_close {Q : Act → World → Prop} (n : Nat) (t : Tree Nat) (listed : Array Bool) (a : Act) (w : World)
    (h : (t.isNode = true → wpAnyD P md ops C Q n listed a w) ∧ (t.isNode = false → Region.ready md ops listed ≠ [] ∧ ∀ i ∈ Region.ready md ops listed, ¬ i ∈ ([] : List Nat) → n ≠ 0 ∧ wpOp P ops NoQ i (fun a' w' => (Last md ops i ∨ C w') ∧ wpAnyD P md ops C Q (n - 1) (listed.setIfInBounds i true) a' w') a w)) : wpAnyD P md ops C Q n listed a w := by
  cases ht : t.isNode with
  | true => exact h.1 ht
  | false =>
    obtain ⟨h0, h1⟩ := h.2 ht
    cases n with
    | zero =>
      exfalso
      obtain ⟨i, hi⟩ := List.exists_mem_of_ne_nil _ h0
      exact (h1 i hi (by simp)).1 rfl
    | succ n => exact ⟨fun e => absurd e h0, fun i hi => (h1 i hi (by simp)).2⟩
theorem wpAnyD_tree {Q : Act → World → Prop} (hs : Region.noSelect ops = true) {l : Tree Nat} {lo : Tree Oper} (hrel : TreeRel ops l lo) :
    ∀ (n : Nat) (listed : Array Bool) (done path : List Nat) (a : Act) (w : World), l.aft (C w) → Closed md ops listed → treeB md ops l n listed done path = true → wpTree P ops C Q lo a w →
      (l.isNode = true → wpAnyD P md ops C Q n listed a w) ∧ (l.isNode = false → Region.ready md ops listed ≠ [] ∧ ∀ i ∈ Region.ready md ops listed, ¬ i ∈ done → n ≠ 0 ∧ wpOp P ops NoQ i (fun a' w' => (Last md ops i ∨ C w') ∧ wpAnyD P md ops C Q (n - 1) (listed.setIfInBounds i true) a' w') a w) := by
  induction hrel with
  | nil =>
    intro n listed done path a w hC _ hB h
    simp only [treeB, Bool.and_eq_true, beq_iff_eq, List.isEmpty_iff] at hB
    obtain ⟨hB, rfl⟩ := hB
    exact ⟨fun _ => ⟨hB, h⟩, (fun e => by cases e)⟩
  | @quiet i o r r' h0 _ ih =>
    intro n listed done path a w hC hcl hB h
    rw [treeB, Bool.and_eq_true, Bool.and_eq_true, Bool.and_eq_true] at hB
    obtain ⟨⟨⟨hr, hf⟩, hn⟩, hB'⟩ := hB
    have hn : n ≠ 0 := by simpa using hn
    have hr : i ∈ Region.ready md ops listed := by simpa using hr
    rw [wpTree] at h
    obtain ⟨v, hy, hK⟩ := h
    obtain ⟨m, rfl⟩ : ∃ m, n = m + 1 := ⟨n - 1, by omega⟩
    have hC : C w := hC
    refine ⟨fun _ => ?_, (fun e => by cases e)⟩
    exact wpAnyD_first h0 (Region.noSelect_spec hs) m listed a w hC hcl (Region.free_spec h0 hf) hr hy
      (wpAnyD_close _ _ _ _ _ (ih m (listed.setIfInBounds i true) [] _ _ w (by cases r <;> first | trivial | exact hC) (hcl.set hr) hB' hK))
  | @alt i o t t' r r' h0 ht _ iht ihr =>
    intro n listed done path a w hC hcl hB h
    rw [treeB, Bool.and_eq_true, Bool.and_eq_true, Bool.and_eq_true, Bool.and_eq_true] at hB
    obtain ⟨⟨⟨⟨hn, hrn⟩, hlast⟩, hBt⟩, hBr⟩ := hB
    have hn : n ≠ 0 := by simpa using hn
    have hrn : r.isNode = false := by simpa using hrn
    have hC : C w := hC
    refine ⟨(fun e => by cases e), fun _ => ?_⟩
    rw [wpTree] at h
    obtain ⟨h3, h4⟩ := (ihr n listed (i :: done) path a w (by cases r <;> first | trivial | exact hC) hcl hBr h.2).2 hrn
    refine ⟨h3, fun j hj hd => ?_⟩
    by_cases hji : j = i
    · subst hji
      refine ⟨hn, wpOp_mono (fun a' w' hk => ?_) (wpOp_of_list h0 h.1)⟩
      have haft : t.aft (C w') := by
        cases ht <;> first | trivial | exact hk.1
      refine ⟨?_, wpAnyD_close _ _ _ _ _ (iht (n - 1) _ [] _ a' w' haft (hcl.set hj) hBt hk.2)⟩
      cases t with
      | nil => exact .inl (Last.of (by simpa [Tree.isNil] using hlast))
      | quiet _ _ => exact .inr haft
      | alt _ _ _ => exact .inr haft
      | stop => exact .inr haft
    · exact h4 j hj (by simp [hji, hd])
  | stop =>
    intro n listed done path a w hC _ hB h
    simp only [treeB, Bool.and_eq_true, Bool.not_eq_true', List.all_eq_true, List.contains_iff_mem] at hB
    exact ⟨(fun e => by cases e), fun _ => ⟨fun e => by simp [e] at hB, fun i hi hd => absurd (by simpa using hB.2 i hi) hd⟩⟩

def pickT (ops : List Oper) : Tree Nat → Tree Oper
  | .nil => .nil
  | .quiet i r => .quiet ((ops[i]?).getD default) (pickT ops r)
  | .alt i t r => .alt ((ops[i]?).getD default) (pickT ops t) (pickT ops r)
  | .stop => .stop
def Tree.inB (n : Nat) : Tree Nat → Bool
  | .nil => true
  | .quiet i r => decide (i < n) && r.inB n
  | .alt i t r => decide (i < n) && t.inB n && r.inB n
  | .stop => true
theorem pickT_rel (os : List Oper) : ∀ t : Tree Nat, t.inB os.length = true → TreeRel os.toArray t (pickT os t)
  | .nil, _ => .nil
  | .quiet i r, h => by
    rw [Tree.inB, Bool.and_eq_true] at h
    have h1 : i < os.length := by simpa using h.1
    exact .quiet (by simp [List.getElem?_eq_getElem h1]) (pickT_rel os r h.2)
  | .alt i t r, h => by
    rw [Tree.inB, Bool.and_eq_true, Bool.and_eq_true] at h
    have h1 : i < os.length := by simpa using h.1.1
    exact .alt (by simp [List.getElem?_eq_getElem h1]) (pickT_rel os t h.1.2) (pickT_rel os r h.2)
  | .stop, _ => .stop

/-- THE LAW. -/
theorem wp_region_tree {id : Nat} {Q : Exit → Act → World → Prop} {a : Act} {w : World} {os : List Oper} (C : World → Prop) (t : Tree Nat) (hm : P.follows .mixedOrders = true) (hs : Region.noSelect os.toArray = true)
    (_ : t.isNode = t.isNode) (hi : t.inB os.length = true) (hB : treeB .any os.toArray t os.toArray.size (Array.replicate os.toArray.size false) [] [] = true) (hC : C w.drew)
    (h : wpTree P os.toArray C (fun a' w' => Q .normal a' w') (pickT os t) a w.drew) : (Code.region id os.toArray true).wp P Q a w := by
  refine wp_region_any hm (wpAny_of_d (C := C) (Q := fun a' w' => Q .normal a' w') (fun _ _ h => h) _ _ _ _ ?_)
  exact wpAnyD_close _ _ _ _ _ (wpAnyD_tree (md := .any) hs (pickT_rel os t hi) _ _ [] [] a w.drew (by cases t <;> first | trivial | exact hC) (Closed.start _ rfl) hB h)

theorem tree_step {Q : Act → World → Prop} {o : Oper} {r : Tree Oper} {a : Act} {w : World} (hp : plainB o = true)
    (h : ∀ K : Act → Prop, (∀ a', wpTree P ops C Q r a' w → K a') → wpQuiet P ops C K [o] a) : wpTree P ops C Q (.quiet o r) a w := by
  obtain ⟨v, hy, hK⟩ := pi_step (P := P) (ops := ops) (C := C) (Q := fun a' w' => wpTree P ops C Q r a' w) (r := []) (w := w) hp (fun K hK => h K fun a' ha => hK a' ha)
  exact ⟨v, hy, hK⟩
theorem tree_do {Q : Act → World → Prop} {o : Oper} {t : Tree Oper} {a : Act} {w : World}
    (h : ∀ K : Act → World → Prop, (∀ a' w', t.aft (C w') ∧ wpTree P ops C Q t a' w' → K a' w') → wpList P ops (Exit.then K NoQ) [o] a w) : wpTree P ops C Q (.alt o t .stop) a w :=
  ⟨h _ fun _ _ h => h, trivial⟩
theorem tree_alt {Q : Act → World → Prop} {o : Oper} {t r : Tree Oper} {a : Act} {w : World}
    (h : ∀ K : Act → World → Prop, (∀ a' w', t.aft (C w') ∧ wpTree P ops C Q t a' w' → K a' w') → wpList P ops (Exit.then K NoQ) [o] a w) (hr : wpTree P ops C Q r a w) : wpTree P ops C Q (.alt o t r) a w :=
  ⟨h _ fun _ _ h => h, hr⟩
/-- A load of a cell that is the same in every world of the class. -/
theorem tree_load {Q : Act → World → Prop} {dst : Option Tmp} {ty : TypeId} {pos : String} {after : Array Edge} {guard : Option (Nat × Bool)} {x : Operand} {t : TypeId} {r : Tree Oper} {a : Act} {w : World} (ad : Addr) (v : Value)
    (hg : Region.wanted { dst := dst, op := .load t x, type := ty, pos := pos, after := after, guard := guard } (yielded ops a.tmps) = true) (hx : a.eval x = .pointer (some ad)) (ht : oneB P t = true)
    (hv : ∀ w, C w → w.cell? ad = some v) (h : wpTree P ops C Q r (a.put dst v) w) :
    wpTree P ops C Q (.quiet { dst := dst, op := .load t x, type := ty, pos := pos, after := after, guard := guard } r) a w := by
  obtain ⟨u, hy, hK⟩ := pi_load (P := P) (ops := ops) (C := C) (Q := fun a' w' => wpTree P ops C Q r a' w) (r := []) (w := w) (pos := pos) (after := after) (ty := ty) ad v hg hx ht hv h
  exact ⟨u, hy, hK⟩
theorem tree_nil {Q : Act → World → Prop} {a : Act} {w : World} (h : Q a w) : wpTree P ops C Q .nil a w := h
end
/-- What some cells hold. -/
structure Cells (l : List (Addr × Value)) (w : World) : Prop where mk :: (out : ∀ p ∈ l, w.cell? p.1 = some p.2)
theorem Cells.nil (w : World) : Cells [] w := ⟨fun _ h => absurd h (by simp)⟩
theorem Cells.cons {w : World} {l : List (Addr × Value)} {a : Addr} {v : Value} (h : w.cell? a = some v) (hl : Cells l w) : Cells ((a, v) :: l) w := ⟨fun p hp => by
  rcases List.mem_cons.1 hp with rfl | hp
  · exact h
  · exact hl.out p hp⟩
theorem Cells.up {w w' : World} {l : List (Addr × Value)} (h : Cells l w) (hu : Up w w') : Cells l w' := ⟨fun p hp => hu.cell (h.out p hp)⟩
theorem Cells.upx {F : Nat → Prop} {w w' : World} {l : List (Addr × Value)} (h : Cells l w) (hu : UpX F w w') (hF : ∀ p ∈ l, ¬ F p.1.block) : Cells l w' := ⟨fun p hp => hu.cell (h.out p hp) (hF p hp)⟩
theorem Cells.head {w : World} {l : List (Addr × Value)} {a : Addr} {v : Value} (h : Cells ((a, v) :: l) w) : w.cell? a = some v := h.out (a, v) (by simp)
theorem Cells.tail {w : World} {l : List (Addr × Value)} {p : Addr × Value} (h : Cells (p :: l) w) : Cells l w := ⟨fun q hq => h.out q (by simp [hq])⟩
end Go.Proofs.Ytehdigkjbobndaa

/- append to a slice of one's own, with where the new one lies: in the old one's block, or in a new one. Over any program. -/
namespace Go.Proofs.Ytehdigkjbobndaa
open Go.RowKit

/-- The slice lies where the old one lay, or in a block that is new, and nothing old has changed. -/
structure Near (w w' : World) (v v' : Value) : Prop where mk ::
  out : v'.ownBlock = v.ownBlock ∨ (Up w w' ∧ ∀ b, v'.ownBlock = some b → w.heap.size ≤ b)
theorem Near.blocks {w w' : World} {v v' : Value} (h : Near w w' v v') : ∀ b, v'.ownBlock = some b → v.ownBlock = some b ∨ w.heap.size ≤ b := by
  intro b hb
  rcases h.out with h | h
  · exact .inl (h ▸ hb)
  · exact .inr (h.2 b hb)

theorem append_near {P : Program} (w : World) (base : Nat) (t ty e : TypeId) (i : TypeInfo) (z : Value) (ht : P.underlying t = some (.slice e)) (hi : P.info? e = some i) (hz : i.zero = some z) (hsize : i.size = 1)
    (v : Value) (n : Nat) (xs : List Value) (hown : w.ownsRow base e 1 v n xs) (a : Addr) (m c : Nat) (news : List Value) (hl : news.length = m) (hnews : ∀ j u, news[j]? = some u → w.cell? (a.add j) = some u) (h1 : ∀ u ∈ news, u.oneCell' = true)
    (hmax : n + m ≤ 9223372036854775807) (hbytes : (n + m) * i.bytes ≤ 140737488355328) (v' : Value) (w' : World) (hr : (Builtin.append_ #[t, t] ty #[v, .slice (some a) m c]).run P w = .ok v' w') : Near w w' v v' := by
  have hl' : news.length = m * i.size := by rw [hsize]; omega
  have hx1 : xs.length = n := by have := hown.1; omega
  rcases hown.2 with ⟨rfl, rfl⟩ | ⟨g, cap, cur, rfl, hbg, hg, hnc, hcm, hcs, htake⟩
  · by_cases hm : m = 0
    · subst hm
      have hn : news = [] := List.eq_nil_of_length_eq_zero (by omega)
      subst hn
      have : (Builtin.append_ #[t, t] ty #[.slice none 0 0, .slice (some a) 0 c]).run P w = .ok (.slice none 0 0) w := by
        simp [Builtin.append_, run_underlying ht, sizeOf, typeInfo, hi, Builtin.lenOf, Builtin.firstCells, loadCells, loadCellsFrom]
      rw [this] at hr
      injection hr with h2 h3
      exact ⟨.inl (by rw [← h2])⟩
    · have h2 := run_append_nil (P := P) w t ty e i z ht hi hz a m c news hl' hnews (by omega) (by omega) (by simp only [Nat.zero_add] at hbytes; omega)
      rw [h2] at hr
      injection hr with h2 h3
      refine ⟨.inr ⟨by rw [← h3]; exact ((Up.refl w).drew).alloc _, fun b hb => ?_⟩⟩
      rw [← h2] at hb
      simp only [Value.ownBlock, Option.some.injEq] at hb
      omega
  · by_cases hroom : n + m ≤ cap
    · have h2 := run_append_room (P := P) w t ty e i ht hi g n cap cur hg a m c news hl' hnews h1 hroom (by rw [hsize]; omega)
      rw [h2] at hr
      injection hr with h2 _
      exact ⟨.inl (by rw [← h2]; rfl)⟩
    · have h2 := run_append_grow (P := P) w t ty e i z ht hi hz ⟨g, 0, none⟩ n cap xs (by rw [hsize]; omega) (hown.cells (g := g) rfl) a m c news hl' hnews (by omega) (by omega) (growslice_fits (by omega) hbytes)
      rw [h2] at hr
      injection hr with h2 h3
      refine ⟨.inr ⟨by rw [← h3]; exact ((Up.refl w).drew).alloc _, fun b hb => ?_⟩⟩
      rw [← h2] at hb
      simp only [Value.ownBlock, Option.some.injEq] at hb
      omega

/-- append to a slice of one's own, of values that lie in cells. -/
theorem wpl_appendV2 {P : Program} {w : World} {ops : Array Oper} {rest : List Oper} {a : Act} {Q : Exit → Act → World → Prop} {dst : Option Tmp} {ty : TypeId} {pos : String} {after : Array Edge}
    {s x : Operand} {t : TypeId} (base e : Nat) (z : Value) (bytes : Nat) (ht : P.underlying t = some (.slice e)) (hi : (P.info? e).map (fun i => (i.zero, i.size, i.bytes)) = some (some z, 1, bytes)) (hz1 : z.cells.size = 1)
    (v : Value) (vs : List Value) (hs : a.eval s = v) (hown : OwnV w base e v vs)
    (ad : Addr) (m c : Nat) (news : List Value) (hx : a.eval x = .slice (some ad) m c) (hm : m = news.length) (hnews : ∀ j u, news[j]? = some u → w.cell? (ad.add j) = some u) (h1c : ∀ u ∈ news, u.oneCell' = true)
    (hb : (vs.length + news.length) * bytes ≤ 140737488355328) (hbytes : 1 ≤ bytes) (hbase : base ≤ w.heap.size)
    (h : ∀ v' w', OwnV w' base e v' (vs ++ news) → UpX (fun b => v.ownBlock = some b) w w' → Near w w' v v' → wpList P ops Q rest (a.put dst v') w') :
    wpList P ops Q ({ dst := dst, op := .call { callee := .builtin .append, args := #[s, x], argTypes := #[t, t] }, type := ty, pos := pos, after := after, guard := none } :: rest) a w := by
  obtain ⟨i, hi, hz, hsz, hby⟩ := info_parts hi
  have hmax : vs.length + news.length ≤ maxLen := by
    have : (vs.length + news.length) * 1 ≤ (vs.length + news.length) * bytes := Nat.mul_le_mul_left _ hbytes
    simp only [maxLen]; omega
  refine wpList_plain rfl fun K hK => ?_
  subst hm
  obtain ⟨v', w', hrun, h2, h3, _⟩ := run_append_own (P := P) w base t ty e i z 1 bytes ht hi hz hsz hby hz1 (by decide) v vs.length vs hown.row ad news.length c news (by simp) hnews h1c hmax hb hbase
  have hn := append_near w base t ty e i z ht hi hz hsz v vs.length vs hown.row ad news.length c news rfl hnews h1c (by simpa [maxLen] using hmax) (by rw [hby]; exact hb) v' w' hrun
  unfold Oper.wp
  simp [execOp, resolve, invoke, builtin, hs, hx, hrun, Result.andThen]
  refine hK _ _ (h v' w' ⟨by simpa using h2⟩ ⟨h3.os, h3.tape, h3.output, h3.size, fun b hb hne => h3.block b hb fun e => hne e.symm⟩ hn)

/-- append to a slice of one's own, of a slice that reads as numbers. -/
theorem wpl_append2 {P : Program} {w : World} {ops : Array Oper} {rest : List Oper} {a : Act} {Q : Exit → Act → World → Prop} {dst : Option Tmp} {ty : TypeId} {pos : String} {after : Array Edge}
    {s x : Operand} {t : TypeId} (base e : Nat) (k : IntKind) (bytes : Nat) (ht : P.underlying t = some (.slice e)) (hi : (P.info? e).map (fun i => (i.zero, i.size, i.bytes)) = some (some (.int k 0), 1, bytes))
    (v : Value) (xs : List Int) (hs : a.eval s = v) (hown : Own w base e k v xs) (ad : Addr) (m c : Nat) (ys : List Int) (hx : a.eval x = .slice (some ad) m c) (hm : m = ys.length) (hy : Rd w k (some ad) c ys)
    (hb : (xs.length + ys.length) * bytes ≤ 140737488355328) (hbytes : 1 ≤ bytes) (hbase : base ≤ w.heap.size)
    (h : ∀ v' w', Own w' base e k v' (xs ++ ys) → UpX (fun b => v.ownBlock = some b) w w' → Near w w' v v' → wpList P ops Q rest (a.put dst v') w') :
    wpList P ops Q ({ dst := dst, op := .call { callee := .builtin .append, args := #[s, x], argTypes := #[t, t] }, type := ty, pos := pos, after := after, guard := none } :: rest) a w := by
  refine wpl_appendV2 base e (.int k 0) bytes ht hi rfl v (xs.map (.int k)) hs ⟨by simpa using hown.row⟩ ad m c (ys.map (.int k)) hx (by simpa using hm) ?_ ?_ (by simpa using hb) hbytes hbase ?_
  · intro j u hu
    obtain ⟨hj, rfl⟩ := List.getElem?_eq_some_iff.1 hu
    simp only [List.length_map] at hj
    rw [hy.cell ad rfl j hj]
    simp [List.getD_eq_getElem?_getD, List.getElem?_eq_getElem hj]
  · intro u hu
    obtain ⟨_, _, rfl⟩ := List.mem_map.1 hu
    rfl
  · intro v' w' h1 h2 h3
    refine h v' w' ⟨by simpa using h1.row, fun y hy' => ?_⟩ h2 h3
    rcases List.mem_append.1 hy' with h4 | h4
    · exact hown.wf y h4
    · exact hy.wf y h4

/-- append of one value. -/
theorem wpl_push2 {P : Program} {w : World} {ops : Array Oper} {rest : List Oper} {a : Act} {Q : Exit → Act → World → Prop} {d1 : Tmp} {dst : Option Tmp} {ty ty1 : TypeId} {pos pos1 : String} {after after1 : Array Edge}
    {s x : Operand} {t : TypeId} (base e : Nat) (z : Value) (bytes : Nat) (ht : P.underlying t = some (.slice e)) (hi : (P.info? e).map (fun i => (i.zero, i.size, i.bytes)) = some (some z, 1, bytes)) (hz1 : z.cells.size = 1)
    (v : Value) (vs : List Value) (u : Value) (hx : a.eval x = u) (hu : u.oneCell' = true) (hs : ∀ y, (a.put (some d1) y).eval s = v) (hd : ∀ y, (a.put (some d1) y).eval (.tmp d1) = y)
    (hown : OwnV w base e v vs) (hb : (vs.length + 1) * bytes ≤ 140737488355328) (hbytes : 1 ≤ bytes) (hbase : base ≤ w.heap.size)
    (h : ∀ v' w', OwnV w' base e v' (vs ++ [u]) → UpX (fun b => v.ownBlock = some b) w w' → Near w w' v v' → wpList P ops Q rest ((a.put (some d1) (.slice (some ⟨w.heap.size, 0, none⟩) 1 1)).put dst v') w') :
    wpList P ops Q ({ dst := some d1, op := .buildSlice t 1 #[(0, x)], type := ty1, pos := pos1, after := after1, guard := none } ::
      { dst := dst, op := .call { callee := .builtin .append, args := #[s, .tmp d1], argTypes := #[t, t] }, type := ty, pos := pos, after := after, guard := none } :: rest) a w := by
  refine wpList_plain rfl fun K hK => ?_
  have hrun := run_lit1 (P := P) w ht hi u hu
  unfold Oper.wp
  simp [execOp, hx, hrun, Result.andThen]
  refine hK _ _ ?_
  have hup := (Up.refl w).alloc (.cells #[u] e)
  refine wpl_appendV2 base e z bytes ht hi hz1 v vs (hs _) (hown.up hup) ⟨w.heap.size, 0, none⟩ 1 1 [u] (hd _) rfl ?_ (by simp [hu]) (by simpa using hb) hbytes (by simp; omega) ?_
  · intro j y hj
    cases j with
    | zero =>
      simp only [List.getElem?_cons_zero, Option.some.injEq] at hj
      subst hj
      exact (Blk.new w e #[u]).cell 0
    | succ j => simp at hj
  · intro v' w' h1 h2 h3
    refine h v' w' h1 ((hup.x _).trans h2) ⟨?_⟩
    rcases h3.out with h | h
    · exact .inl h
    · exact .inr ⟨hup.trans h.1, fun b hb => by have := h.2 b hb; have := hup.size; omega⟩

/-- .. of a whole number. -/
theorem wpl_push_int2 {P : Program} {w : World} {ops : Array Oper} {rest : List Oper} {a : Act} {Q : Exit → Act → World → Prop} {d1 : Tmp} {dst : Option Tmp} {ty ty1 : TypeId} {pos pos1 : String} {after after1 : Array Edge}
    {s x : Operand} {t : TypeId} (base e : Nat) (k : IntKind) (bytes : Nat) (ht : P.underlying t = some (.slice e)) (hi : (P.info? e).map (fun i => (i.zero, i.size, i.bytes)) = some (some (.int k 0), 1, bytes))
    (v : Value) (xs : List Int) (n : Int) (hx : a.eval x = .int k n) (hn : InK k n) (hs : ∀ y, (a.put (some d1) y).eval s = v) (hd : ∀ y, (a.put (some d1) y).eval (.tmp d1) = y)
    (hown : Own w base e k v xs) (hb : (xs.length + 1) * bytes ≤ 140737488355328) (hbytes : 1 ≤ bytes) (hbase : base ≤ w.heap.size)
    (h : ∀ v' w', Own w' base e k v' (xs ++ [n]) → UpX (fun b => v.ownBlock = some b) w w' → Near w w' v v' → wpList P ops Q rest ((a.put (some d1) (.slice (some ⟨w.heap.size, 0, none⟩) 1 1)).put dst v') w') :
    wpList P ops Q ({ dst := some d1, op := .buildSlice t 1 #[(0, x)], type := ty1, pos := pos1, after := after1, guard := none } ::
      { dst := dst, op := .call { callee := .builtin .append, args := #[s, .tmp d1], argTypes := #[t, t] }, type := ty, pos := pos, after := after, guard := none } :: rest) a w := by
  refine wpl_push2 base e (.int k 0) bytes ht hi rfl v (xs.map (.int k)) (.int k n) hx rfl hs hd ⟨by simpa using hown.row⟩ (by simpa using hb) hbytes hbase ?_
  intro v' w' h1 h2 h3
  refine h v' w' ⟨by simpa using h1.row, ?_⟩ h2 h3
  intro y hy
  rcases List.mem_append.1 hy with h3 | h3
  · exact hown.wf y h3
  · rw [List.mem_singleton.1 h3]; exact hn

/-- Two slices apart, of which one was appended to. -/
theorem Near.apart {w w' : World} {v v' u : Value} (h : Near w w' v v') (hne : ∀ g, v.ownBlock = some g → ¬ u.ownBlock = some g) (hu : ∀ g, u.ownBlock = some g → g < w.heap.size) : ∀ g, v'.ownBlock = some g → ¬ u.ownBlock = some g := by
  intro g h1 h2
  rcases h.blocks g h1 with h3 | h3
  · exact hne g h3 h2
  · have := hu g h2; omega
/-- What was appended to reads as before. -/
theorem Near.rd {w w' : World} {base e : Nat} {k : IntKind} {v v' : Value} {xs ys : List Int} {B : Option Addr} {n c : Nat} (h : Near w w' v v') (hv : Own w base e k v xs) (hv' : Own w' base e k v' (xs ++ ys)) (he : v = .slice B n c) : Rd w' k B c xs := by
  obtain ⟨B0, c0, e0, hr⟩ := hv.rd
  rw [he] at e0
  simp only [Value.slice.injEq] at e0
  obtain ⟨rfl, rfl, rfl⟩ := e0
  rcases h.out with h | h
  · refine ⟨hr.le, hr.mx, hr.non, fun ad e1 j hj => ?_, hr.wf⟩
    subst e1
    rcases hv.row.2 with ⟨h0, _⟩ | ⟨g, cap, cur, h0, _⟩
    · rw [he] at h0; cases h0
    · rw [he] at h0
      simp only [Value.slice.injEq, Option.some.injEq] at h0
      obtain ⟨rfl, _⟩ := h0
      rw [he] at h
      have := hv'.row.cells (g := g) (by rw [h]; rfl) j (.int k (xs.getD j 0)) (by
        rw [List.getElem?_map, List.getElem?_append_left hj, List.getElem?_eq_getElem hj]
        simp [List.getD_eq_getElem?_getD, List.getElem?_eq_getElem hj])
      exact this
  · exact hr.up h.1
end Go.Proofs.Ytehdigkjbobndaa

/- Arrays: an element of an array by value; blocks of whole numbers. Over any program. -/
namespace Go.Proofs.Ytehdigkjbobndaa
open Go.RowKit

theorem run_isAgg_one {P : Program} {t : TypeId} (w : World) (ht : oneB P t = true) : (isAgg t).run P w = .ok false w := by
  unfold oneB at ht
  cases hu : P.underlying t with
  | none => rw [hu] at ht; cases ht
  | some d =>
    unfold isAgg
    rw [Sem.run_bind, run_underlying hu w]
    rw [hu] at ht
    cases d <;> simp_all
/-- An element of an array by value, its elements of one cell. -/
theorem run_index_agg {P : Program} (w : World) {t e : TypeId} {n : Nat} (cs : Array Value) (k : IntKind) (i : Nat) (v : Value) (ht : P.underlying t = some (.array n e)) (hs : (P.info? e).map (·.size) = some 1) (hi : i < n) (hv : cs[i]? = some v) (he : oneB P e = true) :
    (Instr.index t (.agg cs) (.int k i)).run P w = .ok v w := by
  obtain ⟨inf, hinf, hsz⟩ := Option.map_eq_some_iff.1 hs
  have hi' : (0 : Int) ≤ (i : Int) ∧ (i : Int) < (n : Int) := by omega
  simp [Instr.index, run_underlying ht, asIntOf, hi', sizeOf, typeInfo, hinf, hsz, part, run_isAgg_one w he, hv]
  omega

/-- Whole numbers as cells. -/
def cellsOf (k : IntKind) (l : List Int) : Array Value := (l.map (Value.int k)).toArray
theorem cellsOf_size (k : IntKind) (l : List Int) : (cellsOf k l).size = l.length := by simp [cellsOf]
theorem cellsOf_get (k : IntKind) (l : List Int) (i : Nat) (h : i < l.length) : (cellsOf k l)[i]? = some (.int k (l.getD i 0)) := by
  simp [cellsOf, List.getElem?_eq_getElem h, List.getD_eq_getElem?_getD]
theorem cellsOf_set (k : IntKind) (l : List Int) (i : Nat) (y : Int) : (cellsOf k l).setIfInBounds i (.int k y) = cellsOf k (l.set i y) := by
  simp [cellsOf, List.map_set]
theorem getD_set_self {α : Type} (l : List α) (i : Nat) (x d : α) (h : i < l.length) : (l.set i x).getD i d = x := by
  simp [List.getD_eq_getElem?_getD, h]
theorem getD_set_other {α : Type} (l : List α) (i j : Nat) (x d : α) (h : i ≠ j) : (l.set i x).getD j d = l.getD j d := by
  simp [List.getD_eq_getElem?_getD, h]
end Go.Proofs.Ytehdigkjbobndaa

/- make of a slice of whole numbers: words over any program. -/
namespace Go.Proofs.Ytehdigkjbobndaa
open Go.RowKit

theorem made_cells (k : IntKind) (m : Nat) : madeCells #[Value.int k 0] m = ((List.replicate m (0 : Int)).map (Value.int k)).toArray := by
  refine Array.ext (by simp [madeCells]) fun i h1 h2 => by simp [madeCells, Nat.mod_one]
theorem InK.zero (k : IntKind) : InK k 0 := ⟨by cases k <;> rfl⟩
/-- make([]T, n): a slice of one's own. -/
theorem wpl_make {P : Program} {w : World} {ops : Array Oper} {rest : List Oper} {a : Act} {Q : Exit → Act → World → Prop} {dst : Option Tmp} {ty : TypeId} {pos : String} {after : Array Edge}
    {x y : Operand} {t : TypeId} (base e : Nat) (k : IntKind) (bytes : Nat) (ht : P.underlying t = some (.slice e)) (hi : (P.info? e).map (fun i => (i.zero, i.size, i.bytes)) = some (some (.int k 0), 1, bytes))
    (n : Nat) (hx : a.eval x = .int .i64 (n : Int)) (hy : a.eval y = .int .i64 (n : Int)) (hb : bytes * n ≤ 281474976710656) (hm : n ≤ 281474976710656) (hbase : base ≤ w.heap.size)
    (h : ∀ w', Own w' base e k (.slice (some ⟨w.heap.size, 0, none⟩) n n) (List.replicate n 0) → Up w w' → w'.heap.size = w.heap.size + 1 → wpList P ops Q rest (a.put dst (.slice (some ⟨w.heap.size, 0, none⟩) n n)) w') :
    wpList P ops Q ({ dst := dst, op := .makeSlice t x y, type := ty, pos := pos, after := after, guard := none } :: rest) a w := by
  refine wpList_plain rfl fun K hK => ?_
  have hr := run_make_row' (P := P) t e (.int k 0) bytes ht hi rfl .i64 .i64 n hb (by omega) w
  unfold Oper.wp
  simp only [execOp]
  rw [hx, hy]
  simp only [Sem.run_bind, hr, Result.andThen]
  refine hK _ _ (h _ ?_ ((Up.refl w).alloc _) (by simp))
  exact Own.lit w base e k (List.replicate n 0) hbase (by simp; omega) (fun x hx => by rw [List.eq_of_mem_replicate hx]; exact InK.zero k) n (by simp) _ (made_cells k n)
end Go.Proofs.Ytehdigkjbobndaa

/- A block known whole: made, copied into, a slice of one's own. Over any program. -/
namespace Go.Proofs.Ytehdigkjbobndaa
open Go.RowKit

theorem Own.of_cells {w : World} {g e base n : Nat} {k : IntKind} {xs : List Int} (h : Blk w g e (cellsOf k xs)) (hb : base ≤ g) (hn : n = xs.length) (hm : xs.length ≤ 281474976710656) (hwf : ∀ x ∈ xs, InK k x) : Own w base e k (.slice (some ⟨g, 0, none⟩) n n) xs := by
  subst hn
  exact ⟨⟨by simp, .inr ⟨g, xs.length, _, rfl, hb, h.out, Nat.le_refl _, by simp [maxLen]; omega, by simp [cellsOf], by simp [cellsOf]; exact List.take_of_length_le (by simp)⟩⟩, hwf⟩
theorem Rd.of_cells {w : World} {g e n : Nat} {k : IntKind} {xs : List Int} (h : Blk w g e (cellsOf k xs)) (hn : n = xs.length) (hm : xs.length ≤ 9223372036854775807) (hwf : ∀ x ∈ xs, InK k x) : Rd w k (some ⟨g, 0, none⟩) n xs :=
  Rd.block xs h.out rfl hn hm hwf

/-- make([]T, n): a block known whole. -/
theorem wpl_makeK {P : Program} {w : World} {ops : Array Oper} {rest : List Oper} {a : Act} {Q : Exit → Act → World → Prop} {dst : Option Tmp} {ty : TypeId} {pos : String} {after : Array Edge}
    {x y : Operand} {t : TypeId} (e : Nat) (k : IntKind) (bytes : Nat) (ht : P.underlying t = some (.slice e)) (hi : (P.info? e).map (fun i => (i.zero, i.size, i.bytes)) = some (some (.int k 0), 1, bytes))
    (n : Nat) (hx : a.eval x = .int .i64 (n : Int)) (hy : a.eval y = .int .i64 (n : Int)) (hb : bytes * n ≤ 281474976710656) (hm : n ≤ 281474976710656)
    (h : ∀ w', Blk w' w.heap.size e (cellsOf k (List.replicate n 0)) → Up w w' → w'.heap.size = w.heap.size + 1 → wpList P ops Q rest (a.put dst (.slice (some ⟨w.heap.size, 0, none⟩) n n)) w') :
    wpList P ops Q ({ dst := dst, op := .makeSlice t x y, type := ty, pos := pos, after := after, guard := none } :: rest) a w := by
  refine wpList_plain rfl fun K hK => ?_
  have hr := run_make_row' (P := P) t e (.int k 0) bytes ht hi rfl .i64 .i64 n hb (by omega) w
  unfold Oper.wp
  simp only [execOp]
  rw [hx, hy]
  simp only [Sem.run_bind, hr, Result.andThen]
  refine hK _ _ (h _ ?_ ((Up.refl w).alloc _) (by simp))
  rw [made_cells k n]
  exact Blk.new w e _

/-- A list laid over another one from a place on. -/
def laid (xs : List Int) (off : Nat) (ys : List Int) : List Int := xs.take off ++ (ys ++ xs.drop (off + ys.length))
theorem laid_len {xs ys : List Int} {off : Nat} (h : off + ys.length ≤ xs.length) : (laid xs off ys).length = xs.length := by simp [laid]; omega
theorem laid_wf {xs ys : List Int} {off : Nat} {p : Int → Prop} (hx : ∀ x ∈ xs, p x) (hy : ∀ y ∈ ys, p y) : ∀ z ∈ laid xs off ys, p z := by
  intro z hz
  simp only [laid, List.mem_append] at hz
  rcases hz with hz | hz | hz
  · exact hx z (List.mem_of_mem_take hz)
  · exact hy z hz
  · exact hx z (List.mem_of_mem_drop hz)
theorem splice_cells (k : IntKind) (xs ys : List Int) (off : Nat) : (splice (xs.map (Value.int k)) off (ys.map (Value.int k))).toArray = cellsOf k (laid xs off ys) := by
  simp [splice, cellsOf, laid]

/-- copy(d, s) into a block known whole. -/
theorem wpl_copy {P : Program} {w : World} {ops : Array Oper} {rest : List Oper} {a : Act} {Q : Exit → Act → World → Prop} {dst : Option Tmp} {ty : TypeId} {pos : String} {after : Array Edge}
    {d s : Operand} {dT sT : TypeId} (e : Nat) (k : IntKind) (hu : P.underlying dT = some (.slice e)) (hsz : (P.info? e).map (·.size) = some 1)
    (w0 : World) (g off dn dc : Nat) (xs : List Int) (hd : a.eval d = .slice (some ⟨g, off, none⟩) dn dc) (hg : Blk w g e (cellsOf k xs)) (hU : Up w0 w) (hb : w0.heap.size ≤ g)
    (A : Option Addr) (n c : Nat) (ys : List Int) (hs : a.eval s = .slice A n c) (hn : n = ys.length) (hr : Rd w k A c ys) (hl : ys.length ≤ dn) (hf : off + ys.length ≤ xs.length)
    (h : ∀ w', Blk w' g e (cellsOf k (laid xs off ys)) → Up w0 w' → Below g w w' → wpList P ops Q rest (a.put dst (goInt ys.length)) w') :
    wpList P ops Q ({ dst := dst, op := .call { callee := .builtin .copy, args := #[d, s], argTypes := #[dT, sT] }, type := ty, pos := pos, after := after, guard := none } :: rest) a w := by
  subst hn
  refine wpList_copy_splice rfl d s dT sT rfl e hu hsz _ A dn dc _ c hd hs g off (xs.map (Value.int k)) e (by exact hg.out) (ys.map (Value.int k)) (by simp [Nat.min_eq_left hl]) ?_ (by simpa using hf) (by simp [Value.oneCell']) g w (Below.refl _ _) (Nat.le_refl _) ?_
  · intro h0
    refine ⟨rfl, ?_⟩
    cases A with
    | none => have := hr.non rfl; have := hr.le; simp at h0; omega
    | some ad =>
      refine ⟨ad, rfl, fun j v hj => ?_⟩
      obtain ⟨hj1, rfl⟩ := List.getElem?_eq_some_iff.1 hj
      rw [List.length_map] at hj1
      have := hr.cell ad rfl j hj1
      simpa [List.getD_eq_getElem?_getD, hj1] using this
  · intro w' hw hbl
    rw [List.length_map]
    exact h w' ⟨by rw [hw.out, splice_cells]⟩ ⟨hU.out.trans (hbl.mono hb)⟩ hbl
end Go.Proofs.Ytehdigkjbobndaa

/- Slicing in a region that draws its order, walked as a tree. Over any program. -/
namespace Go.Proofs.Ytehdigkjbobndaa
open Go.RowKit

theorem tree_slice_lo {P : Program} {ops : Array Oper} {C : World → Prop} {Q : Act → World → Prop} {dst : Option Tmp} {ty : TypeId} {pos : String} {after : Array Edge} {guard : Option (Nat × Bool)}
    {t : TypeId} {x lo : Operand} {r : Tree Oper} {a : Act} {w : World} (e bytes : Nat) (z : Value) (A : Option Addr) (n c : Nat) (kl : IntKind) (l : Int) (ht : P.underlying t = some (.slice e)) (hinf : (P.info? e).map (fun i => (i.zero, i.size, i.bytes)) = some (some z, 1, bytes))
    (hg : Region.wanted { dst := dst, op := .slice t x (some lo) none none, type := ty, pos := pos, after := after, guard := guard } (yielded ops a.tmps) = true) (hx : a.eval x = .slice A n c) (hl : a.eval lo = .int kl l) (h0 : 0 ≤ l) (h1 : l ≤ (n : Int))
    (h : wpTree P ops C Q r (a.put dst (sliced A l.toNat n c 1)) w) :
    wpTree P ops C Q (.quiet { dst := dst, op := .slice t x (some lo) none none, type := ty, pos := pos, after := after, guard := guard } r) a w := by
  refine ⟨_, .inl ⟨hg, fun w' _ => ?_⟩, h⟩
  obtain ⟨i, hi, _, hs, _⟩ := info_parts hinf
  have he : P.elem t = e := by simp [Program.elem, ht]
  have hrun := run_slice_l (P := P) w' t A n c (by rw [he]; exact ht) kl l h0 h1
  have hsz : (sizeOf (P.elem t)).run P w' = .ok 1 w' := by rw [he]; simp [sizeOf, typeInfo, hi, hs]
  have hat := run_sliceAt_slice (P := P) w' t (.slice A n c) (some (.int kl l)) none none (by rw [he]; exact ht)
  simp only [execOp, hx, hl, Option.map_some, Option.map_none]
  simp [hat, hrun, hsz, Result.andThen]
theorem tree_slice_lh {P : Program} {ops : Array Oper} {C : World → Prop} {Q : Act → World → Prop} {dst : Option Tmp} {ty : TypeId} {pos : String} {after : Array Edge} {guard : Option (Nat × Bool)}
    {t : TypeId} {x lo hi : Operand} {r : Tree Oper} {a : Act} {w : World} (e bytes : Nat) (z : Value) (A : Option Addr) (n c : Nat) (kl kh : IntKind) (l m : Int) (ht : P.underlying t = some (.slice e)) (hinf : (P.info? e).map (fun i => (i.zero, i.size, i.bytes)) = some (some z, 1, bytes))
    (hg : Region.wanted { dst := dst, op := .slice t x (some lo) (some hi) none, type := ty, pos := pos, after := after, guard := guard } (yielded ops a.tmps) = true) (hx : a.eval x = .slice A n c) (hl : a.eval lo = .int kl l) (hh : a.eval hi = .int kh m) (h0 : 0 ≤ l) (h1 : l ≤ m) (h2 : m ≤ (c : Int))
    (h : wpTree P ops C Q r (a.put dst (sliced A l.toNat m.toNat c 1)) w) :
    wpTree P ops C Q (.quiet { dst := dst, op := .slice t x (some lo) (some hi) none, type := ty, pos := pos, after := after, guard := guard } r) a w := by
  refine ⟨_, .inl ⟨hg, fun w' _ => ?_⟩, h⟩
  obtain ⟨i, hi, _, hs, _⟩ := info_parts hinf
  have he : P.elem t = e := by simp [Program.elem, ht]
  have hrun := run_slice_lh (P := P) w' t A n c (by rw [he]; exact ht) kl kh l m h0 h1 h2
  have hsz : (sizeOf (P.elem t)).run P w' = .ok 1 w' := by rw [he]; simp [sizeOf, typeInfo, hi, hs]
  have hat := run_sliceAt_slice (P := P) w' t (.slice A n c) (some (.int kl l)) (some (.int kh m)) none (by rw [he]; exact ht)
  simp only [execOp, hx, hl, hh, Option.map_some, Option.map_none]
  simp [hat, hrun, hsz, Result.andThen]
theorem tree_slice_lhm {P : Program} {ops : Array Oper} {C : World → Prop} {Q : Act → World → Prop} {dst : Option Tmp} {ty : TypeId} {pos : String} {after : Array Edge} {guard : Option (Nat × Bool)}
    {t : TypeId} {x lo hi mx : Operand} {r : Tree Oper} {a : Act} {w : World} (e bytes : Nat) (z : Value) (A : Option Addr) (n c : Nat) (kl kh km : IntKind) (l m : Int) (ht : P.underlying t = some (.slice e)) (hinf : (P.info? e).map (fun i => (i.zero, i.size, i.bytes)) = some (some z, 1, bytes))
    (hg : Region.wanted { dst := dst, op := .slice t x (some lo) (some hi) (some mx), type := ty, pos := pos, after := after, guard := guard } (yielded ops a.tmps) = true) (hx : a.eval x = .slice A n c) (hl : a.eval lo = .int kl l) (hh : a.eval hi = .int kh m) (hm : a.eval mx = .int km m) (h0 : 0 ≤ l) (h1 : l ≤ m) (h2 : m ≤ (c : Int))
    (h : wpTree P ops C Q r (a.put dst (sliced A l.toNat m.toNat m.toNat 1)) w) :
    wpTree P ops C Q (.quiet { dst := dst, op := .slice t x (some lo) (some hi) (some mx), type := ty, pos := pos, after := after, guard := guard } r) a w := by
  refine ⟨_, .inl ⟨hg, fun w' _ => ?_⟩, h⟩
  obtain ⟨i, hi, _, hs, _⟩ := info_parts hinf
  have he : P.elem t = e := by simp [Program.elem, ht]
  have hrun := run_slice_lhm (P := P) w' t A n c (by rw [he]; exact ht) kl kh km l m m h0 h1 (Int.le_refl _) h2
  have hsz : (sizeOf (P.elem t)).run P w' = .ok 1 w' := by rw [he]; simp [sizeOf, typeInfo, hi, hs]
  have hat := run_sliceAt_slice (P := P) w' t (.slice A n c) (some (.int kl l)) (some (.int kh m)) (some (.int km m)) (by rw [he]; exact ht)
  simp only [execOp, hx, hl, hh, hm, Option.map_some]
  simp [hat, hrun, hsz, Result.andThen]
theorem tree_slice_hi {P : Program} {ops : Array Oper} {C : World → Prop} {Q : Act → World → Prop} {dst : Option Tmp} {ty : TypeId} {pos : String} {after : Array Edge} {guard : Option (Nat × Bool)}
    {t : TypeId} {x hi : Operand} {r : Tree Oper} {a : Act} {w : World} (e bytes : Nat) (z : Value) (A : Option Addr) (n c : Nat) (kh : IntKind) (m : Int) (ht : P.underlying t = some (.slice e)) (hinf : (P.info? e).map (fun i => (i.zero, i.size, i.bytes)) = some (some z, 1, bytes))
    (hg : Region.wanted { dst := dst, op := .slice t x none (some hi) none, type := ty, pos := pos, after := after, guard := guard } (yielded ops a.tmps) = true) (hx : a.eval x = .slice A n c) (hh : a.eval hi = .int kh m) (h1 : 0 ≤ m) (h2 : m ≤ (c : Int))
    (h : wpTree P ops C Q r (a.put dst (sliced A 0 m.toNat c 1)) w) :
    wpTree P ops C Q (.quiet { dst := dst, op := .slice t x none (some hi) none, type := ty, pos := pos, after := after, guard := guard } r) a w := by
  refine ⟨_, .inl ⟨hg, fun w' _ => ?_⟩, h⟩
  obtain ⟨i, hi, _, hs, _⟩ := info_parts hinf
  have he : P.elem t = e := by simp [Program.elem, ht]
  have hrun := run_slice_h (P := P) w' t A n c (by rw [he]; exact ht) kh m h1 h2
  have hsz : (sizeOf (P.elem t)).run P w' = .ok 1 w' := by rw [he]; simp [sizeOf, typeInfo, hi, hs]
  have hat := run_sliceAt_slice (P := P) w' t (.slice A n c) none (some (.int kh m)) none (by rw [he]; exact ht)
  simp only [execOp, hx, hh, Option.map_some, Option.map_none]
  simp [hat, hrun, hsz, Result.andThen]
/-- What a slice of a slice reads. -/
theorem Rd.sliced {w : World} {k : IntKind} {A : Option Addr} {c : Nat} {xs : List Int} (h : Rd w k A c xs) (l r m : Nat) (h1 : l ≤ r) (h2 : r ≤ xs.length) (h3 : r ≤ m) (h4 : m ≤ c) :
    ∃ A', sliced A l r m 1 = .slice A' (r - l) (m - l) ∧ Rd w k A' (m - l) ((xs.take r).drop l) := by
  unfold Go.sliced
  exact ⟨_, by first | rfl | simp, by have := h.cut l r m h1 h2 h3 h4; simpa using this⟩
end Go.Proofs.Ytehdigkjbobndaa

/- A slice of one's own whose elements are slices of numbers, each in blocks of their own: words over any program. -/
namespace Go.Proofs.Ytehdigkjbobndaa
open Go.RowKit

/-- The block is one of cells of a type. -/
structure Typed (w : World) (q b : Nat) : Prop where mk :: (out : ∃ cs fr, w.heap[b]? = some (Obj.cells cs q fr))
theorem Typed.up {w w' : World} {q b : Nat} (h : Typed w q b) (hu : Up w w') : Typed w' q b := by
  obtain ⟨cs, fr, h⟩ := h.out
  exact ⟨cs, fr, hu.heap h⟩
theorem Typed.upx {F : Nat → Prop} {w w' : World} {q b : Nat} (h : Typed w q b) (hu : UpX F w w') (hF : ¬ F b) : Typed w' q b := by
  obtain ⟨cs, fr, h⟩ := h.out
  exact ⟨cs, fr, hu.heap h hF⟩
theorem OwnV.typed {w : World} {base e : Nat} {v : Value} {vs : List Value} (h : OwnV w base e v vs) : ∀ b, v.ownBlock = some b → Typed w e b := by
  intro k hk
  rcases h.row.2 with ⟨rfl, _⟩ | ⟨g, cap, cur, rfl, _, hh, _⟩
  · simp [Value.ownBlock] at hk
  · simp only [Value.ownBlock, Option.some.injEq] at hk
    subst hk
    exact ⟨_, _, hh⟩
theorem Own.typed {w : World} {base e : Nat} {k : IntKind} {v : Value} {xs : List Int} (h : Own w base e k v xs) : ∀ b, v.ownBlock = some b → Typed w e b := by
  intro k hk
  rcases h.row.2 with ⟨rfl, _⟩ | ⟨g, cap, cur, rfl, _, hh, _⟩
  · simp [Value.ownBlock] at hk
  · simp only [Value.ownBlock, Option.some.injEq] at hk
    subst hk
    exact ⟨_, _, hh⟩
theorem Typed.ne {w : World} {q q' b : Nat} (h : Typed w q b) (h' : Typed w q' b) : q = q' := by
  obtain ⟨cs, fr, h⟩ := h.out
  obtain ⟨cs', fr', h'⟩ := h'.out
  rw [h] at h'
  injection h' with h'
  injection h' with _ h'

/-- An own slice (cells of type e) of own slices of numbers (cells of type q), these in blocks below m. -/
structure OwnL (w : World) (base e q : Nat) (k : IntKind) (m : Nat) (v : Value) (ls : List (List Int)) : Prop where mk ::
  out : ∃ vs, OwnV w base e v vs ∧ Vals (fun b => b < m ∧ Typed w q b) w k vs ls
theorem OwnL.nil (w : World) (base e q : Nat) (k : IntKind) (m : Nat) : OwnL w base e q k m (.slice none 0 0) [] := ⟨[], OwnV.nil _ _ _, Vals.nil _ _ _⟩
theorem OwnL.upx {F : Nat → Prop} {w w' : World} {base e q : Nat} {k : IntKind} {m : Nat} {v : Value} {ls : List (List Int)} (h : OwnL w base e q k m v ls) (hu : UpX F w w')
    (hF : ∀ b, v.ownBlock = some b → ¬ F b) (hG : ∀ b, b < m → Typed w q b → ¬ F b) : OwnL w' base e q k m v ls := by
  obtain ⟨vs, h1, h2⟩ := h.out
  refine ⟨vs, h1.upx hu hF, ?_⟩
  exact (h2.upx hu fun b hb => hG b hb.1 hb.2).mono fun b hb => ⟨hb.1, hb.2.upx hu (hG b hb.1 hb.2)⟩
theorem OwnL.up {w w' : World} {base e q : Nat} {k : IntKind} {m : Nat} {v : Value} {ls : List (List Int)} (h : OwnL w base e q k m v ls) (hu : Up w w') : OwnL w' base e q k m v ls :=
  h.upx (hu.x fun _ => False) (fun _ _ f => f) fun _ _ _ f => f
theorem OwnL.mono {w : World} {base e q : Nat} {k : IntKind} {m m' : Nat} {v : Value} {ls : List (List Int)} (h : OwnL w base e q k m v ls) (hm : m ≤ m') : OwnL w base e q k m' v ls := by
  obtain ⟨vs, h1, h2⟩ := h.out
  exact ⟨vs, h1, h2.mono fun b hb => ⟨Nat.lt_of_lt_of_le hb.1 hm, hb.2⟩⟩
theorem OwnL.lt {w : World} {base e q : Nat} {k : IntKind} {m : Nat} {v : Value} {ls : List (List Int)} (h : OwnL w base e q k m v ls) : ∀ b, v.ownBlock = some b → base ≤ b ∧ b < w.heap.size := by
  obtain ⟨vs, h1, h2⟩ := h.out
  exact h1.lt
/-- A slice of numbers that is being made, from block m on, is changed. -/
theorem OwnL.part {w w' : World} {base e q : Nat} {k k' : IntKind} {m m' : Nat} {v d : Value} {ls : List (List Int)} {xs : List Int} (h : OwnL w base e q k m v ls) (hd : Own w m' q k' d xs) (hm : m ≤ m') (hne : e ≠ q)
    (hu : UpX (fun b => d.ownBlock = some b) w w') : OwnL w' base e q k m v ls := by
  obtain ⟨vs, h1, h2⟩ := h.out
  refine h.upx hu (fun b hb hd' => hne ((h1.typed b hb).ne (hd.typed b hd'))) fun b hb _ hd' => ?_
  have := (hd.lt b hd').1
  omega
theorem OwnL.rd {w : World} {base e q : Nat} {k : IntKind} {m : Nat} {v : Value} {ls : List (List Int)} (h : OwnL w base e q k m v ls) : ∃ A c, v = .slice A ls.length c ∧ RdL w k A c ls := by
  obtain ⟨vs, h1, h2⟩ := h.out
  obtain ⟨A, c, e, h3⟩ := h1.rdLF (F := fun _ => True) (h2.mono fun _ _ => trivial) fun _ _ => trivial
  exact ⟨A, c, e, h3.rd⟩
/-- One more is appended: the literal of one element, and the append. -/
theorem wpl_pushL {P : Program} {w : World} {ops : Array Oper} {rest : List Oper} {a : Act} {Q : Exit → Act → World → Prop} {d1 : Tmp} {dst : Option Tmp} {ty ty1 : TypeId} {pos pos1 : String} {after after1 : Array Edge}
    {s x : Operand} {t : TypeId} (base e q : Nat) (k : IntKind) (m : Nat) (ht : P.underlying t = some (.slice e)) (hi : (P.info? e).map (fun i => (i.zero, i.size, i.bytes)) = some (some (.slice none 0 0), 1, 24)) (hne : e ≠ q)
    (v : Value) (ls : List (List Int)) (b0 : Nat) (u : Value) (xs : List Int) (hx : a.eval x = u) (hs : ∀ y, (a.put (some d1) y).eval s = v) (hd : ∀ y, (a.put (some d1) y).eval (.tmp d1) = y)
    (hown : OwnL w base e q k m v ls) (hxo : Own w b0 q k u xs) (hm : m ≤ w.heap.size) (hb : (ls.length + 1) * 24 ≤ 140737488355328) (hbase : base ≤ w.heap.size)
    (h : ∀ v' w', OwnL w' base e q k w.heap.size v' (ls ++ [xs]) → UpX (fun b => v.ownBlock = some b) w w' → wpList P ops Q rest ((a.put (some d1) (.slice (some ⟨w.heap.size, 0, none⟩) 1 1)).put dst v') w') :
    wpList P ops Q ({ dst := some d1, op := .buildSlice t 1 #[(0, x)], type := ty1, pos := pos1, after := after1, guard := none } ::
      { dst := dst, op := .call { callee := .builtin .append, args := #[s, .tmp d1], argTypes := #[t, t] }, type := ty, pos := pos, after := after, guard := none } :: rest) a w := by
  obtain ⟨vs, h1, h2⟩ := hown.out
  obtain ⟨B, c, rfl, hr⟩ := hxo.rd
  refine wpl_push base e (.slice none 0 0) 24 ht hi rfl v vs (.slice B xs.length c) hx rfl hs hd h1 (by rw [h2.len]; exact hb) (by decide) hbase ?_
  intro v' w' hv hu
  refine h v' w' ⟨_, hv, ?_⟩ hu
  have hsep : ∀ b, Typed w q b → ¬ v.ownBlock = some b := fun b hb hv' => hne ((h1.typed b hv').ne hb)
  have h3 : Vals (fun b => b < w.heap.size ∧ Typed w' q b) w' k vs ls := (h2.upx hu fun b hb => hsep b hb.2).mono fun b hb => ⟨Nat.lt_of_lt_of_le hb.1 hm, hb.2.upx hu (hsep b hb.2)⟩
  have hty : ∀ ad', B = some ad' → (Value.slice B xs.length c).ownBlock = some ad'.block := by
    intro ad' e'
    subst e'
    rcases hxo.row.2 with ⟨h0, _⟩ | ⟨g, cap, cur, h0, _⟩
    · cases h0
    · simp only [Value.slice.injEq, Option.some.injEq] at h0
      obtain ⟨rfl, _⟩ := h0
      rfl
  refine h3.snoc (hr.upx hu fun ad' e' _ => hsep _ (hxo.typed _ (hty ad' e'))) rfl fun ad' e' h0 => ⟨hr.lt ad' e' h0, (hxo.typed _ (hty ad' e')).upx hu (hsep _ (hxo.typed _ (hty ad' e')))⟩
end Go.Proofs.Ytehdigkjbobndaa
