/- A region that draws its order, where at some points several operations may come up: a tree of the orders. Over any program. -/
import Derived.Test.YtehdigkjbobndaaPi
import Derived.Test.YtehdigkjbobndaaBase
namespace Go.Proofs.Ytehdigkjbobndaa
open Go.RowKit

/-- The orders: 'quiet': an operation that yields the same in every world of the class; 'alt': one that may come up now, what follows, and the others that may come up instead; 'stop': there are no others. -/
inductive Tree (α : Type) where
  | nil : Tree α
  | quiet : α → Tree α → Tree α
  | alt : α → Tree α → Tree α → Tree α
  | stop : Tree α

section
variable {P : Program} {ops : Array Oper} {md : Region.Mode} {C : World → Prop}

/-- What is listed has all it comes behind listed. -/
def Closed (md : Region.Mode) (ops : Array Oper) (listed : Array Bool) : Prop :=
  ∀ k ok, ops[k]? = some ok → listed.getD k true = true → ∀ e ∈ ok.after, Region.binds md e = true → listed.getD e.on false = true
/-- Where it may come up all others are listed. -/
def Last (md : Region.Mode) (ops : Array Oper) (j : Nat) : Prop :=
  ∀ listed, Closed md ops listed → j ∈ Region.ready md ops listed → ∀ k, k < ops.size → k ≠ j → listed.getD k true = true
theorem getD_set_false {listed : Array Bool} {i k : Nat} (h : listed.getD k false = true) : (listed.setIfInBounds i true).getD k false = true := by
  by_cases hk : k = i
  · subst hk
    rcases Nat.lt_or_ge k listed.size with h' | h'
    · simp [h']
    · simp [Array.getElem?_eq_none h'] at h
  · rw [getD_set_ne false (fun e => hk e.symm)]
    exact h
theorem Closed.set {listed : Array Bool} (h : Closed md ops listed) {i : Nat} (hi : i ∈ Region.ready md ops listed) : Closed md ops (listed.setIfInBounds i true) := by
  intro k ok hk hl e he hb
  refine getD_set_false ?_
  obtain ⟨_, oi, hoi, hall⟩ := mem_ready.1 hi
  by_cases hki : k = i
  · subst hki
    rw [hoi] at hk
    obtain rfl := Option.some.inj hk
    exact hall e he hb
  · rw [getD_set_ne true (fun e => hki e.symm)] at hl
    exact h k ok hk hl e he hb
theorem Closed.start (n : Nat) (hn : n = ops.size) : Closed md ops (Array.replicate n false) := by
  intro k ok hk hl
  subst hn
  have h1 := (Array.getElem?_eq_some_iff.1 hk).1
  simp [Array.getD, h1] at hl
/-- s comes behind k. -/
def edgeB (md : Region.Mode) (ops : Array Oper) (s k : Nat) : Bool := match ops[s]? with | some o => o.after.any fun e => Region.binds md e && e.on == k | none => false
def lastB (md : Region.Mode) (ops : Array Oper) : List Nat → List Nat → Bool
  | [], seen => (List.range ops.size).all fun k => seen.contains k
  | k :: r, seen => (seen.any fun s => edgeB md ops s k) && lastB md ops r (k :: seen)
theorem lastB_spec {listed : Array Bool} (hc : Closed md ops listed) : ∀ (r seen : List Nat), lastB md ops r seen = true →
    (∀ s ∈ seen, ∀ os, ops[s]? = some os → ∀ e ∈ os.after, Region.binds md e = true → listed.getD e.on false = true) →
    ∀ k, k < ops.size → ∃ l : List Nat, k ∈ l ∧ ∀ s ∈ l, s ∈ seen ∨ listed.getD s true = true
  | [], seen, h, _, k, hk => by
    simp only [lastB, List.all_eq_true, List.mem_range] at h
    exact ⟨[k], by simp, fun s hs => .inl (by rw [List.mem_singleton.1 hs]; simpa using h k hk)⟩
  | m :: r, seen, h, hp, k, hk => by
    rw [lastB, Bool.and_eq_true] at h
    obtain ⟨s, hs, he⟩ := List.any_eq_true.1 h.1
    unfold edgeB at he
    cases ho : ops[s]? with
    | none => rw [ho] at he; cases he
    | some os =>
      rw [ho] at he
      obtain ⟨i, hi, he⟩ := Array.any_eq_true.1 he
      rw [Bool.and_eq_true, beq_iff_eq] at he
      have h1 := hp s hs os ho _ (Array.getElem_mem hi) he.1
      rw [he.2] at h1
      have h2 : listed.getD m true = true := by
        rcases Nat.lt_or_ge m listed.size with h' | h'
        · simp [h'] at h1 ⊢; exact h1
        · simp [Array.getElem?_eq_none h'] at h1
      obtain ⟨l, hk1, hl⟩ := lastB_spec hc r (m :: seen) h.2 (fun s' hs' os' ho' e' he' hb' => by
        rcases List.mem_cons.1 hs' with h9 | h9
        · subst h9; exact hc s' os' ho' h2 e' he' hb'
        · exact hp s' h9 os' ho' e' he' hb') k hk
      refine ⟨l, hk1, fun s hs => ?_⟩
      rcases hl s hs with h3 | h3
      · rcases List.mem_cons.1 h3 with rfl | h3
        · exact .inr h2
        · exact .inl h3
      · exact .inr h3
theorem Last.of {j : Nat} {r : List Nat} (h : lastB md ops r [j] = true) : Last md ops j := by
  intro listed hc hj k hk hkj
  obtain ⟨_, oj, hoj, hall⟩ := mem_ready.1 hj
  obtain ⟨l, h1, h2⟩ := lastB_spec hc r [j] h (fun s hs os ho e he hb => by
    rw [List.mem_singleton.1 hs, hoj] at ho
    obtain rfl := Option.some.inj ho
    exact hall e he hb) k hk
  rcases h2 k h1 with h3 | h3
  · exact absurd (List.mem_singleton.1 h3) hkj
  · exact h3

/-- Whatever order is picked; each operation but the last one leaves a world of the class. -/
def wpAnyD (P : Program) (md : Region.Mode) (ops : Array Oper) (C : World → Prop) (Q : Act → World → Prop) : Nat → Array Bool → Act → World → Prop
  | 0, listed, a, w => Region.ready md ops listed = [] ∧ Q a w
  | fuel + 1, listed, a, w =>
    (Region.ready md ops listed = [] → Q a w) ∧
    ∀ i ∈ Region.ready md ops listed, wpOp P ops NoQ i (fun a' w' => (Last md ops i ∨ C w') ∧ wpAnyD P md ops C Q fuel (listed.setIfInBounds i true) a' w') a w

theorem wpAny_of_d {Q : Act → World → Prop} {Q' : Exit → Act → World → Prop} (hQ : ∀ a w, Q a w → Q' .normal a w) : ∀ (fuel : Nat) (listed : Array Bool) (a : Act) (w : World),
    wpAnyD P md ops C Q fuel listed a w → wpAny P md ops Q' fuel listed a w
  | 0, _, _, _, h => ⟨h.1, hQ _ _ h.2⟩
  | fuel + 1, _, _, _, h => ⟨fun h0 => hQ _ _ (h.1 h0), fun i hi => wpOp_noq (fun a' w' hk => wpAny_of_d hQ fuel _ a' w' hk.2) (h.2 i hi)⟩

theorem wpAnyD_first {Q : Act → World → Prop} {i : Nat} {oi : Oper} {v : Value} (hi : ops[i]? = some oi) (hsel : ∀ (j : Nat) (o : Oper) cs b, ops[j]? = some o → o.op ≠ .select cs b) :
    ∀ (fuel : Nat) (listed : Array Bool) (a : Act) (w : World), C w → Closed md ops listed →
      (∀ j oj, ops[j]? = some oj → j ≠ i → listed.getD j true = false → (∀ e ∈ oj.after, Region.binds md e = true → e.on ≠ i) → oi.apart ops oj = true) →
      i ∈ Region.ready md ops listed → StillC P ops C oi v a →
      wpAnyD P md ops C Q fuel (listed.setIfInBounds i true) (a.put oi.dst v) w → wpAnyD P md ops C Q (fuel + 1) listed a w := by
  intro fuel
  induction fuel with
  | zero =>
    intro listed a w hC hcl _ hr hy H
    refine ⟨fun h => (by rw [h] at hr; cases hr), fun j hj => ?_⟩
    by_cases hji : j = i
    · subst hji; exact hy.wpOp hi hC ⟨.inr hC, H⟩
    · have := ready_mono hj hji
      rw [H.1] at this
      cases this
  | succ fuel ih =>
    intro listed a w hC hcl hfree hr hy H
    refine ⟨fun h => (by rw [h] at hr; cases hr), fun j hj => ?_⟩
    by_cases hji : j = i
    · subst hji; exact hy.wpOp hi hC ⟨.inr hC, H⟩
    · have h1 := H.2 j (ready_mono hj hji)
      obtain ⟨hjun, oj, hoj, hall⟩ := mem_ready.1 hj
      have hnot : ∀ e ∈ oj.after, Region.binds md e = true → e.on ≠ i := fun e he hb heq => by
        have h1 := hall e he hb
        have h0 := (mem_ready.1 hr).1
        rw [heq] at h1
        rcases Nat.lt_or_ge i listed.size with h' | h'
        · simp [h'] at h0 h1; rw [h0] at h1; cases h1
        · simp [Array.getElem?_eq_none h'] at h1
      have h2 := opC_put hoj (hfree j oj hoj hji hjun hnot) (fun cs b => hsel i oi cs b hi) (fun cs b => hsel j oj cs b hoj) hy h1
      have hfree' : ∀ k ok, ops[k]? = some ok → k ≠ i → (listed.setIfInBounds j true).getD k true = false →
          (∀ e ∈ ok.after, Region.binds md e = true → e.on ≠ i) → oi.apart ops ok = true := fun k ok hk hki hun hno => by
        refine hfree k ok hk hki ?_ hno
        by_cases hjk : j = k
        · subst hjk; exact hjun
        · rw [getD_set_ne true hjk] at hun; exact hun
      refine wpOp_mono (fun a' w' h3 => ?_) h2
      rcases h3.2.1 with h0 | hC'
      · have h1 := h0 listed hcl hj i (Array.getElem?_eq_some_iff.1 hi).1 (fun e => hji e.symm)
        rw [(mem_ready.1 hr).1] at h1
        cases h1
      · refine ⟨.inr hC', ih (listed.setIfInBounds j true) a' w' hC' (hcl.set hj) hfree' (ready_mono hr (Ne.symm hji)) h3.1 ?_⟩
        rw [Array.setIfInBounds_comm _ _ hji]
        exact h3.2.2

/-- Behind the last operation nothing is asked. -/
def Tree.aft {α : Type} (t : Tree α) (C : Prop) : Prop :=
  match t with
  | .nil => True
  | _ => C
def wpTree (P : Program) (ops : Array Oper) (C : World → Prop) (Q : Act → World → Prop) : Tree Oper → Act → World → Prop
  | .nil, a, w => Q a w
  | .quiet o r, a, w => ∃ v, StillC P ops C o v a ∧ wpTree P ops C Q r (a.put o.dst v) w
  | .alt o t r, a, w => wpList P ops (Exit.then (fun a' w' => t.aft (C w') ∧ wpTree P ops C Q t a' w') NoQ) [o] a w ∧ wpTree P ops C Q r a w
  | .stop, _, _ => True

/-- A tree's head may stand where nothing was spoken of yet. -/
def Tree.isNode {α : Type} : Tree α → Bool
  | .nil => true
  | .quiet _ _ => true
  | .alt _ _ _ => false
  | .stop => false

def Tree.isNil {α : Type} : Tree α → Bool
  | .nil => true
  | _ => false
/-- The tree's orders are those that may be; n operations are left; 'done': what may come up now and was spoken of. -/
def treeB (md : Region.Mode) (ops : Array Oper) : Tree Nat → Nat → Array Bool → List Nat → List Nat → Bool
  | .nil, n, listed, _, _ => (Region.ready md ops listed).isEmpty && n == 0
  | .quiet i r, n, listed, _, path => (Region.ready md ops listed).contains i && Region.free md ops listed i && n != 0 && treeB md ops r (n - 1) (listed.setIfInBounds i true) [] (i :: path)
  | .alt i t r, n, listed, done, path => n != 0 && !r.isNode && (!t.isNil || lastB md ops path [i]) && treeB md ops t (n - 1) (listed.setIfInBounds i true) [] (i :: path) && treeB md ops r n listed (i :: done) path
  | .stop, _, listed, done, _ => !(Region.ready md ops listed).isEmpty && (Region.ready md ops listed).all fun i => done.contains i

inductive TreeRel (ops : Array Oper) : Tree Nat → Tree Oper → Prop where
  | nil : TreeRel ops .nil .nil
  | quiet {i o r r'} : ops[i]? = some o → TreeRel ops r r' → TreeRel ops (.quiet i r) (.quiet o r')
  | alt {i o t t' r r'} : ops[i]? = some o → TreeRel ops t t' → TreeRel ops r r' → TreeRel ops (.alt i t r) (.alt o t' r')
  | stop : TreeRel ops .stop .stop

theorem wpAnyD_close {Q : Act → World → Prop} (n : Nat) (t : Tree Nat) (listed : Array Bool) (a : Act) (w : World)
    (h : (t.isNode = true → wpAnyD P md ops C Q n listed a w) ∧ (t.isNode = false → Region.ready md ops listed ≠ [] ∧ ∀ i ∈ Region.ready md ops listed, ¬ i ∈ ([] : List Nat) → n ≠ 0 ∧ wpOp P ops NoQ i (fun a' w' => (Last md ops i ∨ C w') ∧ wpAnyD P md ops C Q (n - 1) (listed.setIfInBounds i true) a' w') a w)) : wpAnyD P md ops C Q n listed a w := by
  cases ht : t.isNode with
  | true => exact h.1 ht
  | false =>
    obtain ⟨h0, h1⟩ := h.2 ht
    cases n with
    | zero =>
      exfalso
      obtain ⟨i, hi⟩ := List.exists_mem_of_ne_nil _ h0
      exact (h1 i hi (by simp)).1 rfl
    | succ n => exact ⟨fun e => absurd e h0, fun i hi => (h1 i hi (by simp)).2⟩
theorem wpAnyD_tree {Q : Act → World → Prop} (hs : Region.noSelect ops = true) {l : Tree Nat} {lo : Tree Oper} (hrel : TreeRel ops l lo) :
    ∀ (n : Nat) (listed : Array Bool) (done path : List Nat) (a : Act) (w : World), l.aft (C w) → Closed md ops listed → treeB md ops l n listed done path = true → wpTree P ops C Q lo a w →
      (l.isNode = true → wpAnyD P md ops C Q n listed a w) ∧ (l.isNode = false → Region.ready md ops listed ≠ [] ∧ ∀ i ∈ Region.ready md ops listed, ¬ i ∈ done → n ≠ 0 ∧ wpOp P ops NoQ i (fun a' w' => (Last md ops i ∨ C w') ∧ wpAnyD P md ops C Q (n - 1) (listed.setIfInBounds i true) a' w') a w) := by
  induction hrel with
  | nil =>
    intro n listed done path a w hC _ hB h
    simp only [treeB, Bool.and_eq_true, beq_iff_eq, List.isEmpty_iff] at hB
    obtain ⟨hB, rfl⟩ := hB
    exact ⟨fun _ => ⟨hB, h⟩, (fun e => by cases e)⟩
  | @quiet i o r r' h0 _ ih =>
    intro n listed done path a w hC hcl hB h
    rw [treeB, Bool.and_eq_true, Bool.and_eq_true, Bool.and_eq_true] at hB
    obtain ⟨⟨⟨hr, hf⟩, hn⟩, hB'⟩ := hB
    have hn : n ≠ 0 := by simpa using hn
    have hr : i ∈ Region.ready md ops listed := by simpa using hr
    rw [wpTree] at h
    obtain ⟨v, hy, hK⟩ := h
    obtain ⟨m, rfl⟩ : ∃ m, n = m + 1 := ⟨n - 1, by omega⟩
    have hC : C w := hC
    refine ⟨fun _ => ?_, (fun e => by cases e)⟩
    exact wpAnyD_first h0 (Region.noSelect_spec hs) m listed a w hC hcl (Region.free_spec h0 hf) hr hy
      (wpAnyD_close _ _ _ _ _ (ih m (listed.setIfInBounds i true) [] _ _ w (by cases r <;> first | trivial | exact hC) (hcl.set hr) hB' hK))
  | @alt i o t t' r r' h0 ht _ iht ihr =>
    intro n listed done path a w hC hcl hB h
    rw [treeB, Bool.and_eq_true, Bool.and_eq_true, Bool.and_eq_true, Bool.and_eq_true] at hB
    obtain ⟨⟨⟨⟨hn, hrn⟩, hlast⟩, hBt⟩, hBr⟩ := hB
    have hn : n ≠ 0 := by simpa using hn
    have hrn : r.isNode = false := by simpa using hrn
    have hC : C w := hC
    refine ⟨(fun e => by cases e), fun _ => ?_⟩
    rw [wpTree] at h
    obtain ⟨h3, h4⟩ := (ihr n listed (i :: done) path a w (by cases r <;> first | trivial | exact hC) hcl hBr h.2).2 hrn
    refine ⟨h3, fun j hj hd => ?_⟩
    by_cases hji : j = i
    · subst hji
      refine ⟨hn, wpOp_mono (fun a' w' hk => ?_) (wpOp_of_list h0 h.1)⟩
      have haft : t.aft (C w') := by
        cases ht <;> first | trivial | exact hk.1
      refine ⟨?_, wpAnyD_close _ _ _ _ _ (iht (n - 1) _ [] _ a' w' haft (hcl.set hj) hBt hk.2)⟩
      cases t with
      | nil => exact .inl (Last.of (by simpa [Tree.isNil] using hlast))
      | quiet _ _ => exact .inr haft
      | alt _ _ _ => exact .inr haft
      | stop => exact .inr haft
    · exact h4 j hj (by simp [hji, hd])
  | stop =>
    intro n listed done path a w hC _ hB h
    simp only [treeB, Bool.and_eq_true, Bool.not_eq_true', List.all_eq_true, List.contains_iff_mem] at hB
    exact ⟨(fun e => by cases e), fun _ => ⟨fun e => by simp [e] at hB, fun i hi hd => absurd (by simpa using hB.2 i hi) hd⟩⟩

def pickT (ops : List Oper) : Tree Nat → Tree Oper
  | .nil => .nil
  | .quiet i r => .quiet ((ops[i]?).getD default) (pickT ops r)
  | .alt i t r => .alt ((ops[i]?).getD default) (pickT ops t) (pickT ops r)
  | .stop => .stop
def Tree.inB (n : Nat) : Tree Nat → Bool
  | .nil => true
  | .quiet i r => decide (i < n) && r.inB n
  | .alt i t r => decide (i < n) && t.inB n && r.inB n
  | .stop => true
theorem pickT_rel (os : List Oper) : ∀ t : Tree Nat, t.inB os.length = true → TreeRel os.toArray t (pickT os t)
  | .nil, _ => .nil
  | .quiet i r, h => by
    rw [Tree.inB, Bool.and_eq_true] at h
    have h1 : i < os.length := by simpa using h.1
    exact .quiet (by simp [List.getElem?_eq_getElem h1]) (pickT_rel os r h.2)
  | .alt i t r, h => by
    rw [Tree.inB, Bool.and_eq_true, Bool.and_eq_true] at h
    have h1 : i < os.length := by simpa using h.1.1
    exact .alt (by simp [List.getElem?_eq_getElem h1]) (pickT_rel os t h.1.2) (pickT_rel os r h.2)
  | .stop, _ => .stop

/-- THE LAW. -/
theorem wp_region_tree {id : Nat} {Q : Exit → Act → World → Prop} {a : Act} {w : World} {os : List Oper} (C : World → Prop) (t : Tree Nat) (hm : P.follows .mixedOrders = true) (hs : Region.noSelect os.toArray = true)
    (_ : t.isNode = t.isNode) (hi : t.inB os.length = true) (hB : treeB .any os.toArray t os.toArray.size (Array.replicate os.toArray.size false) [] [] = true) (hC : C w.drew)
    (h : wpTree P os.toArray C (fun a' w' => Q .normal a' w') (pickT os t) a w.drew) : (Code.region id os.toArray true).wp P Q a w := by
  refine wp_region_any hm (wpAny_of_d (C := C) (Q := fun a' w' => Q .normal a' w') (fun _ _ h => h) _ _ _ _ ?_)
  exact wpAnyD_close _ _ _ _ _ (wpAnyD_tree (md := .any) hs (pickT_rel os t hi) _ _ [] [] a w.drew (by cases t <;> first | trivial | exact hC) (Closed.start _ rfl) hB h)

theorem tree_step {Q : Act → World → Prop} {o : Oper} {r : Tree Oper} {a : Act} {w : World} (hp : plainB o = true)
    (h : ∀ K : Act → Prop, (∀ a', wpTree P ops C Q r a' w → K a') → wpQuiet P ops C K [o] a) : wpTree P ops C Q (.quiet o r) a w := by
  obtain ⟨v, hy, hK⟩ := pi_step (P := P) (ops := ops) (C := C) (Q := fun a' w' => wpTree P ops C Q r a' w) (r := []) (w := w) hp (fun K hK => h K fun a' ha => hK a' ha)
  exact ⟨v, hy, hK⟩
theorem tree_do {Q : Act → World → Prop} {o : Oper} {t : Tree Oper} {a : Act} {w : World}
    (h : ∀ K : Act → World → Prop, (∀ a' w', t.aft (C w') ∧ wpTree P ops C Q t a' w' → K a' w') → wpList P ops (Exit.then K NoQ) [o] a w) : wpTree P ops C Q (.alt o t .stop) a w :=
  ⟨h _ fun _ _ h => h, trivial⟩
theorem tree_alt {Q : Act → World → Prop} {o : Oper} {t r : Tree Oper} {a : Act} {w : World}
    (h : ∀ K : Act → World → Prop, (∀ a' w', t.aft (C w') ∧ wpTree P ops C Q t a' w' → K a' w') → wpList P ops (Exit.then K NoQ) [o] a w) (hr : wpTree P ops C Q r a w) : wpTree P ops C Q (.alt o t r) a w :=
  ⟨h _ fun _ _ h => h, hr⟩
/-- A load of a cell that is the same in every world of the class. -/
theorem tree_load {Q : Act → World → Prop} {dst : Option Tmp} {ty : TypeId} {pos : String} {after : Array Edge} {guard : Option (Nat × Bool)} {x : Operand} {t : TypeId} {r : Tree Oper} {a : Act} {w : World} (ad : Addr) (v : Value)
    (hg : Region.wanted { dst := dst, op := .load t x, type := ty, pos := pos, after := after, guard := guard } (yielded ops a.tmps) = true) (hx : a.eval x = .pointer (some ad)) (ht : oneB P t = true)
    (hv : ∀ w, C w → w.cell? ad = some v) (h : wpTree P ops C Q r (a.put dst v) w) :
    wpTree P ops C Q (.quiet { dst := dst, op := .load t x, type := ty, pos := pos, after := after, guard := guard } r) a w := by
  obtain ⟨u, hy, hK⟩ := pi_load (P := P) (ops := ops) (C := C) (Q := fun a' w' => wpTree P ops C Q r a' w) (r := []) (w := w) (pos := pos) (after := after) (ty := ty) ad v hg hx ht hv h
  exact ⟨u, hy, hK⟩
theorem tree_nil {Q : Act → World → Prop} {a : Act} {w : World} (h : Q a w) : wpTree P ops C Q .nil a w := h
end
/-- What some cells hold. -/
structure Cells (l : List (Addr × Value)) (w : World) : Prop where mk :: (out : ∀ p ∈ l, w.cell? p.1 = some p.2)
theorem Cells.nil (w : World) : Cells [] w := ⟨fun _ h => absurd h (by simp)⟩
theorem Cells.cons {w : World} {l : List (Addr × Value)} {a : Addr} {v : Value} (h : w.cell? a = some v) (hl : Cells l w) : Cells ((a, v) :: l) w := ⟨fun p hp => by
  rcases List.mem_cons.1 hp with rfl | hp
  · exact h
  · exact hl.out p hp⟩
theorem Cells.up {w w' : World} {l : List (Addr × Value)} (h : Cells l w) (hu : Up w w') : Cells l w' := ⟨fun p hp => hu.cell (h.out p hp)⟩
theorem Cells.upx {F : Nat → Prop} {w w' : World} {l : List (Addr × Value)} (h : Cells l w) (hu : UpX F w w') (hF : ∀ p ∈ l, ¬ F p.1.block) : Cells l w' := ⟨fun p hp => hu.cell (h.out p hp) (hF p hp)⟩
theorem Cells.head {w : World} {l : List (Addr × Value)} {a : Addr} {v : Value} (h : Cells ((a, v) :: l) w) : w.cell? a = some v := h.out (a, v) (by simp)
theorem Cells.tail {w : World} {l : List (Addr × Value)} {p : Addr × Value} (h : Cells (p :: l) w) : Cells l w := ⟨fun q hq => h.out q (by simp [hq])⟩
end Go.Proofs.Ytehdigkjbobndaa
