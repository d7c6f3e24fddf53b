/- Several texts in one: RngAt, Bwd, Sow. -/
import Derived.RangeFuncFrom
import Derived.RangeFuncLeaves
import Derived.TacticsInMore
import Derived.Test.YtmmacpicbonhhaaPiM
import Derived.RangeFuncBox
import Derived.Shelf.Abstract
import Derived.WalkKit
import Derived.OwnWalkIn
import Derived.LoopNIn
import Derived.LoopIn
import Derived.Test.YtmmacpicbonhhaaWkM
/- A range over a function, where a round is told which one it is (after the kit's law on what lies behind); a region that draws its order inside a round. -/
namespace Go.Proofs.Ytmmacpicbonhhaa
open Go.RowKit
variable {F : Fence} {n : Nat} {P : Program}

/-- The iterator hands over m things, the k-th as 'encs k', to whatever goes on. -/
def SeqAt (F : Fence) (n : Nat) (P : Program) (g : Nat) (lb : Array Value) (encs : Nat → Array Value) (Kp : World → World → Prop) (m : Nat) (w : World) : Prop :=
  ∀ (l : Nat) (J : Nat → World → Prop) (W : World), Below w.heap.size w W → AbidesFrom W.heap.size J →
    (∀ k W1, k < m → J k W1 → YieldAt F (n - 1) P l (encs k) W1 fun e W' => e = .returned (.bool true) ∧ J (k + 1) W' ∧ Kp W1 W') →
    J 0 W →
    CallsIn F n P g (#[.func (.yield l) #[] #[]] ++ lb) W fun e W' => (∃ v, e = .returned v) ∧ J m W'

/-- How a round's body is left. -/
def atPost (Kp : World → World → Prop) (I : World → Prop) (W : World) : Exit → Act → World → Prop
  | .normal, _, W' => KeepsOthers W W' ∧ Kp W W' ∧ I W'
  | _, _, _ => False
theorem atPost_no {Kp : World → World → Prop} {I : World → Prop} {W : World} : ¬ LetsOut (atPost Kp I W) := fun ⟨_, _, h⟩ => h

theorem wpIn_range_at {g : Operand} {ps : Array Tmp} {assign body : Code} {Q : Exit → Act → World → Prop} {a : Act} {w : World}
    (hro : F.round = none) (h1 : 1 ≤ n) {gf : Nat} {lb : Array Value} (hg : a.eval g = .func (.func gf) #[] lb) (hFg : F.fn gf) (eg : ∀ args w, (callFunc gf args).run P w = .ok (.enter gf args) w)
    {encs : Nat → Array Value} {Kp : World → World → Prop} {m : Nat} (hseq : SeqAt F (n - 1) P gf lb encs Kp m w)
    (hKt : ∀ {A B C : World}, Kp A B → Kp B C → Kp A C) (hKb : ∀ (W : World) (l : Nat) (o o' : Obj), w.heap.size ≤ l → W.heap[l]? = some o → o.isCells = false → o.isWalk = false → Kp W (W.putObj l o')) (hps : ∀ x, (encs x).size = ps.size)
    (I : Nat → World → Prop) (hI : OwnFrom w.heap.size I) (h0 : I 0 w) (a₁ : Nat → Act)
    (hassign : ∀ (l : Nat) (k : Nat) (W : World) (K : Act → World → Prop), K (a₁ k) W →
      assign.wpIn (F.inRound l) (n - 1 - 1) P (Exit.then K (fun _ _ _ => False)) { tmps := (ps.zip (encs k)).foldl (fun t (p, v) => t.setIfInBounds p v) a.tmps, defers := [] } W)
    (hbody : ∀ (l : Nat) (k : Nat) (W : World), k < m → I k W → body.wpIn (F.inRound l) (n - 1 - 1) P (atPost Kp (I (k + 1)) W) (a₁ k) W)
    (hdone : ∀ (D : Nat) (W : World), w.heap.size ≤ D → I m W → W.heap[D]? = some (.deferred (some [])) → Q .normal { a with defers := { target := .collected D, args := #[] } :: a.defers } W) :
    (Code.rangeFunc g ps assign body).wpIn F n P Q a w := by
  refine wpIn_rangeFunc ?_
  intro fn hfn
  rw [hro]
  obtain ⟨rec, hrec⟩ : ∃ rec : LoopState → Option Code → Loop, rec = fun st pe => { state := st, pending := pe, fn, tmps := a.tmps, params := ps, assign, body, defers := w.heap.size } := ⟨_, rfl⟩
  obtain ⟨W1, hW1⟩ : ∃ W1, (w.alloc (.deferred (some []))).alloc (.loop (rec .ready none)) = W1 := ⟨_, rfl⟩
  have hL1 : W1.heap[w.heap.size + 1]? = some (.loop (rec .ready none)) := by
    rw [← hW1]; have := World.alloc_heap_new (w.alloc (.deferred (some []))) (.loop (rec .ready none)); rwa [World.size_alloc] at this
  have hK1 : W1.heap[w.heap.size]? = some (.deferred (some [])) := by
    rw [← hW1]; exact (Below.heap_alloc _ _ _ (by simp)).trans (World.alloc_heap_new w _)
  have hI1 : I 0 W1 := by rw [← hW1]; exact hI.alloc _ (hI.alloc _ h0)
  have hb1 : Below w.heap.size w W1 := by
    rw [← hW1]; exact ((Below.refl _ w).alloc (Nat.le_refl _) _).alloc (by simp) _
  refine ⟨w.heap.size + 1, [{ target := .collected w.heap.size, args := #[] }], W1, { target := .fn (.func gf) lb, args := #[.func (.yield (w.heap.size + 1)) #[] #[]] }, W1, gf,
    #[.func (.yield (w.heap.size + 1)) #[] #[]] ++ lb, W1, ?_, ?_, ?_, ?_, fun _ => h1, ?_⟩
  · rw [← hW1, hrec]; exact run_enterLoop_outer _ _ _ _ _
  · simp only [resolve, hg]
    simp [go_sem]
  · intro f' hf'; simp [Target.leads] at hf'; subst hf'; exact hFg
  · simp [invoke, go_sem, eg]
  · have hnw : ∀ {A : World} {row : Option Nat}, (∀ r, row = some r → W1.heap.size ≤ r ∧ ∃ o : Obj, A.heap[r]? = some o ∧ o.isWalk = true) → (∀ r, row = some r → w.heap.size ≤ r ∧ ∃ o : Obj, A.heap[r]? = some o ∧ o.isCells = false) :=
      fun hr r e => by obtain ⟨hB, o, ho, hw⟩ := hr r e; exact ⟨by rw [← hW1] at hB; simp at hB; omega, o, ho, Obj.not_cells_of_walk hw⟩
    refine (hseq (w.heap.size + 1)
      (fun k W => I k W ∧ W.heap[w.heap.size + 1]? = some (.loop (rec .ready none)) ∧ W.heap[w.heap.size]? = some (.deferred (some [])))
      W1 hb1
      (fun s A B row hs hg' hr => ⟨hI s A B row hs.1 hg' (hnw hr), (grownBy_keeps hg' (fun r e => (hr r e).2) hs.2.1 rfl).trans hs.2.1, (grownBy_keeps hg' (fun r e => (hr r e).2) hs.2.2 rfl).trans hs.2.2⟩)
      ?_ ⟨hI1, hL1, hK1⟩).mono ?_
    · rintro k W hkm ⟨hi, hl, hk⟩
      have hlt : w.heap.size + 1 < W.heap.size := (Array.getElem?_eq_some_iff.1 hl).1
      have hy := run_yield (P := P) (args := encs k) hl (by rw [hrec]; exact hps k)
      rw [hrec] at hy
      refine ⟨fn, _, assign, body, hy, roundIn_of_wpIn hfn (hassign _ k W _ ⟨_, run_beginRound hl (by rw [hrec]), ?_⟩)⟩
      have hl2 : (W.putObj (w.heap.size + 1) (.loop { rec .ready none with state := .busy })).heap[w.heap.size + 1]? = some (.loop { rec .ready none with state := .busy }) := World.putObj_heap_same hlt
      have hk2 : (W.putObj (w.heap.size + 1) (.loop { rec .ready none with state := .busy })).heap[w.heap.size]? = some (.deferred (some [])) := (World.putObj_heap_other (by omega)).trans hk
      have hw2 : Kp W (W.putObj (w.heap.size + 1) (.loop { rec .ready none with state := .busy })) := hKb _ _ _ _ (by omega) hl rfl rfl
      refine wpIn_mono (hbody _ k _ hkm (hI.putObj _ hi (by omega) hl rfl)) ?_
      rintro e a3 W3 hp
      cases e with
      | normal =>
        obtain ⟨hk3, hkp3, hi3⟩ := hp
        have hl3 := hk3.same _ _ hl2 rfl
        have hr := run_endRound (P := P) none hl3
        have hl4 : (W3.putObj (w.heap.size + 1) (.loop (rec .ready none))).heap[w.heap.size + 1]? = some (.loop (rec .ready none)) := World.putObj_heap_same (Array.getElem?_eq_some_iff.1 hl3).1
        have hk4 : (W3.putObj (w.heap.size + 1) (.loop (rec .ready none))).heap[w.heap.size]? = some (.deferred (some [])) := (World.putObj_heap_other (by omega)).trans (hk3.same _ _ hk2 rfl)
        refine ⟨.bool true, W3.putObj (w.heap.size + 1) (.loop (rec .ready none)), ?_, rfl, ⟨hI.putObj _ hi3 (by omega) hl3 rfl, hl4, hk4⟩, hKt (hKt hw2 hkp3) (hKb _ _ _ _ (by omega) hl3 rfl rfl)⟩
        rw [hrec] at hr ⊢
        exact hr
      | ret => exact hp.elim
      | exit id => exact hp.elim
      | goto t => exact hp.elim
      | panic ch => exact hp.elim
      | outgrown => exact hp.elim
    · rintro e W2 ⟨⟨v, rfl⟩, hi, hl, hk⟩
      exact ⟨none, _, by have := run_endLoop (P := P) hl (by rw [hrec]; simp); rw [hrec] at this; exact this, hdone _ _ (Nat.le_refl _) (hI.putObj _ hi (by omega) hl rfl) ((World.putObj_heap_other (by omega)).trans hk)⟩

theorem callsIn_round {f : FuncId} {args : Array Value} {w : World} {R : Ending → World → Prop} (l : Nat) (h : CallsIn F n P f args w R) : CallsIn (F.inRound l) n P f args w R := h
/-- A row of operations without a deferred call goes in a round as anywhere. -/
theorem wpOpsIn_of_wpOps {l : Nat} {ops : Array Oper} {Q : Exit → Act → World → Prop} (hd : ∀ o ∈ ops, ∀ c, o.op ≠ .defer c) (hno : ¬ LetsOut Q) :
    ∀ (is : List Nat) (a : Act) (w : World), wpOps P ops Q is a w → wpOpsIn (Fence.wide.inRound l) n P ops Q is a w
  | [], _, _, h => h
  | i :: rest, a, w, h => by
    have ih := wpOpsIn_of_wpOps (l := l) hd hno rest
    simp only [wpOps, wpOpsIn] at h ⊢
    cases ho : ops[i]? with
    | none => rw [ho] at h; exact ih _ _ h
    | some o =>
      simp only [ho] at h ⊢
      split
      · next hw =>
        rw [if_pos hw] at h
        rcases h with h | ⟨_, h⟩
        · unfold Oper.wp at h
          refine ⟨fun _ _ => trivial, ?_⟩
          rw [show (Fence.wide.inRound l).round = some l from rfl, Oper.semAt_some _ _ _ (hd o (Array.mem_of_getElem? ho))]
          generalize (execOp a.eval o).run P w = r at h ⊢
          cases r with
          | ok x w' =>
            cases x
            case value v => exact ih _ _ h
            case skip => exact ih _ _ h
            case defer d => exact ih _ _ h
            case enter f args =>
              exact And.intro (fun e => nomatch e) (callsIn_round l (callsIn_wide.2 (Calls.mono h fun e w'' hk => by cases e <;> first | exact ih _ _ hk | exact hk)))
            case row row args =>
              refine And.intro (fun e => nomatch e) fun c cs _ => ?_
              obtain ⟨v, w'', hk, hs⟩ := h c cs
              exact ⟨v, w'', ih _ _ hk, (stepsIn_wide (P := P)).2 hs⟩
            all_goals exact h.elim
          | halt x w' => cases x <;> first | exact h | exact h.elim
        · exact absurd h hno
      · next hw =>
        rw [if_neg hw] at h
        exact ⟨fun _ _ => trivial, ih _ _ h⟩

def noDefer (os : List Oper) : Bool := os.all fun o => match o.op with | .defer _ => false | _ => true
theorem noDefer_spec {os : List Oper} (h : noDefer os = true) : ∀ o ∈ os.toArray, ∀ c, o.op ≠ .defer c := by
  intro o ho c e
  have := List.all_eq_true.1 h o (by simpa using ho)
  rw [e] at this
  cases this

theorem wpIn_region_plain {l id : Nat} {Q : Exit → Act → World → Prop} {a : Act} {w : World} {os : List Oper} (hd : noDefer os = true)
    (h : ∀ K : Act → World → Prop, (∀ a' w', Q .normal a' w' → K a' w') → wpList P os.toArray (Exit.then K NoQ) os a w) : (Code.region id os.toArray false).wpIn (Fence.wide.inRound l) n P Q a w := by
  refine Code.wpIn_mono (Q := Exit.then (fun a' w' => Q .normal a' w') NoQ) (fun e a' w' h => by cases e <;> first | exact h | exact h.elim) ?_
  refine wpIn_region (wpOpsIn_of_wpOps (noDefer_spec hd) (fun ⟨_, _, h⟩ => h) _ _ _ ?_)
  rw [List.range_eq_range', ← Array.length_toList, wpOps_eq_wpList os.toArray.toList 0 (by simp)]
  exact h _ fun _ _ h => h

theorem wpIn_region_tree {l id : Nat} {Q : Exit → Act → World → Prop} {a : Act} {w : World} {os : List Oper} (C : World → Prop) (t : Tree Nat) (hm : P.follows .mixedOrders = true) (hs : Region.noSelect os.toArray = true)
    (_ : t.isNode = t.isNode) (hi : t.inB os.length = true) (hB : treeB .any os.toArray t os.toArray.size (Array.replicate os.toArray.size false) [] [] = true) (hd : noDefer os = true) (hC : C w.drew)
    (h : wpTree P os.toArray C (fun a' w' => Q .normal a' w') (pickT os t) a w.drew) : (Code.region id os.toArray true).wpIn (Fence.wide.inRound l) n P Q a w := by
  refine Code.wpIn_mono (Q := fun e a' w' => e = .normal ∧ Q .normal a' w') (fun e a' w' h => by rw [h.1]; exact h.2) ?_
  refine wpIn_region_draw fun t' => wpOpsIn_of_wpOps (noDefer_spec hd) (fun ⟨_, _, h⟩ => by cases h.1) _ _ _ ?_
  simp only [Region.schedule, hm, Bool.true_or, if_true]
  refine wpAny_sound os.toArray.size t' _ a _ ?_
  refine wpAny_of_d (C := C) (Q := fun a' w' => Q .normal a' w') (fun _ _ h => ⟨rfl, h⟩) _ _ _ _ ?_
  exact wpAnyD_close _ _ _ _ _ (wpAnyD_tree (md := .any) hs (pickT_rel os t hi) _ _ [] [] a w.drew (by cases t <;> first | trivial | exact hC) (Closed.start _ rfl) hB h)
end Go.Proofs.Ytmmacpicbonhhaa

/- slices.Backward's contract, after the kit's text on slices.All. -/
namespace Go.Proofs.Ytmmacpicbonhhaa
open Go.RowKit Go.Shelf
attribute [local go_sem] Oper.semAt_some
set_option maxRecDepth 100000

/-- What a round must keep: the boxed slice, and its cells. -/
structure KpB (Bs b : Nat) (W W' : World) : Prop where
  cell : ∀ {p : Addr} {v : Value}, p.block = Bs ∨ p.block = b → W.cell? p = some v → W'.cell? p = some v
theorem KpB.trans {Bs b : Nat} {W W' W'' : World} (h : KpB Bs b W W') (k : KpB Bs b W' W'') : KpB Bs b W W'' := ⟨fun hp hc => k.cell hp (h.cell hp hc)⟩

theorem KpB.turn {Bs b : Nat} (W : World) (l : Nat) (o o' : Obj) (h : W.heap[l]? = some o) (hc : o.isCells = false) : KpB Bs b W (W.putObj l o') :=
  ⟨fun _ h' => cell_kept h' (grownBy_putObj' W l o') (fun r e => by cases e; exact ⟨o, h, hc⟩)⟩

set_option maxHeartbeats 2000000 in
theorem bwdF_in (F : Fence) (n : Nat) (h8 : F.fn 99) (hro : F.round = none) (hn : 1 ≤ n) (l Bs b off len cap : Nat) (zs : List Int) (hlen : zs.length = len) (hreach : len ≤ 65536) (J : Nat → World → Prop)
    (hY : ∀ k W, k < len → J k W → YieldAt F (n - 1) Try.prog l #[.int .i64 ((len - 1 - k : Nat) : Int), .int .i64 (zs[len - 1 - k]?.getD 0)] W fun e W' => e = .returned (.bool true) ∧ J (k + 1) W' ∧ KpB Bs b W W')
    (W : World) (hBs : W.cell? ⟨Bs, 0, none⟩ = some (.slice (some ⟨b, off, none⟩) len cap)) (hc : ∀ j, j < len → W.cell? ⟨b, off + j, none⟩ = some (.int .i64 (zs[j]?.getD 0))) (h0 : J 0 W) :
    CallsIn F n Try.prog 99 #[.func (.yield l) #[] #[], .pointer (some ⟨Bs, 0, none⟩)] W fun e W' => (∃ v, e = .returned v) ∧ J len W' := by
  refine callsIn_of_wp Try.func99 rfl h8 ?_ hro
  simp only [Try.ntmps99, List.size_toArray, List.length_cons, List.length_nil, Nat.reduceAdd, Nat.reduceSub, Array.replicate_succ, Array.replicate_zero, List.push_toArray, List.append_toArray, List.nil_append, List.cons_append]
  gi_wp2
  gi_loopw [3] (fun i wr => ∃ q : Nat, q ≤ len ∧ i = .int .i64 ((q : Int) - 1) ∧ J (len - q) wr ∧ KpB Bs b W wr)
    (fun i _ => (intOf i + 1).toNat)
  case atStart => exact ⟨len, Nat.le_refl _, rfl, by rw [Nat.sub_self]; exact h0, ⟨fun _ h => h⟩⟩
  case round =>
    obtain ⟨q, hk, rfl, hJs, hnx⟩ := hrel
    have hBs' := hnx.cell (p := ⟨Bs, 0, none⟩) (.inl rfl) hBs
    cases q with
    | succ k =>
      have hcx : wr.cell? ⟨b, off + k, none⟩ = some (.int .i64 (zs[k]?.getD 0)) := hnx.cell (p := ⟨b, off + k, none⟩) (.inr rfl) (hc k (by omega))
      have hkk : ((k + 1 : Nat) : Int) - 1 = (k : Int) := by omega
      rw [hkk]
      obtain ⟨fn, tmps, assign, body, hy, hR⟩ := hY (len - (k + 1)) wr (by omega) hJs
      rw [show len - 1 - (len - (k + 1)) = k by omega] at hy
      have HB := Lib.hid (show len - (k + 1) + 1 = len - k by omega)
      clear hkk
      gi_wp2
      refine hR.mono ?_
      rintro e W3 ⟨rfl, hJ3, hk3⟩
      rw [HB.out] at hJ3
      gi_wp2
      go_roundw
      case rel => exact ⟨k, by omega, by simp, hJ3, hnx.trans hk3⟩
      case measure => simp [intOf]
    | zero =>
      gi_wp2
      go_end0
      exact ⟨⟨_, rfl⟩, hJs⟩

set_option maxHeartbeats 1000000 in
theorem bwd_in (F : Fence) (n : Nat) (h5 : F.fn 81) (hro : F.round = none) (a : Option Addr) (len cap : Nat) (w : World) :
    CallsIn F n Try.prog 81 #[.slice a len cap] w fun e w' => e = .returned (.func (.func 99) #[] #[.pointer (some ⟨w.heap.size, 0, none⟩)]) ∧ w' = w.alloc (.cells #[.slice a len cap] 22) := by
  refine callsIn_of_wp Try.func81 rfl h5 ?_ hro
  simp only [Try.ntmps81, List.size_toArray, List.length_cons, List.length_nil, Nat.reduceAdd, Nat.reduceSub, Array.replicate_succ, Array.replicate_zero, List.push_toArray, List.append_toArray, List.nil_append, List.cons_append]
  gi_wp2
  go_ret
  exact ⟨rfl, rfl⟩

/-- slices.Backward of a slice that is not nil. -/
theorem bwd_at (F : Fence) (n : Nat) (h8 : F.fn 99) (hro : F.round = none) (hn : 1 ≤ n) (Bs b off cap : Nat) (zs : List Int) (hreach : zs.length ≤ 65536) (w : World) (hb : b < w.heap.size) (hBn : Bs < w.heap.size)
    (hBs : w.cell? ⟨Bs, 0, none⟩ = some (.slice (some ⟨b, off, none⟩) zs.length cap)) (hc : ∀ j, j < zs.length → w.cell? ⟨b, off + j, none⟩ = some (.int .i64 (zs[j]?.getD 0))) :
    SeqAt F n Try.prog 99 #[.pointer (some ⟨Bs, 0, none⟩)] (fun k => #[Value.int .i64 ((zs.length - 1 - k : Nat) : Int), Value.int .i64 (zs[zs.length - 1 - k]?.getD 0)]) (KpB Bs b) zs.length w := fun l J W hW _ hY h0 =>
  bwdF_in F n h8 hro hn l Bs b off zs.length cap zs rfl hreach J (fun k W hk hJ => hY k W hk hJ) W ((hW.cell (p := ⟨Bs, 0, none⟩) hBn).trans hBs) (fun j hj => (hW.cell (p := ⟨b, off + j, none⟩) hb).trans (hc j hj)) h0
end Go.Proofs.Ytmmacpicbonhhaa

/- The walk of induce.state's sow. -/
namespace Go.Proofs.Ytmmacpicbonhhaa
open Go.RowKit Go.Shelf
attribute [local go_sem] Oper.semAt_some
set_option maxRecDepth 100000

/-- The last k are sown. -/
def sownK (x : List Int) (fs : List Nat) (k : Nat) : List Int × (Int → Nat) := Ind.sowN x (fs.drop (fs.length - k))
theorem sownK_zero (x : List Int) (fs : List Nat) : sownK x fs 0 = (List.replicate x.length (-1), Ind.tl x) := by
  unfold sownK
  rw [Nat.sub_zero, List.drop_length]
  rfl
theorem sownK_all (x : List Int) (fs : List Nat) : sownK x fs fs.length = Ind.sowN x fs := by
  unfold sownK
  rw [Nat.sub_self, List.drop_zero]
theorem sownK_step (x : List Int) (fs : List Nat) (k i : Nat) (h : k < fs.length) (hi : fs.getD (fs.length - 1 - k) 0 = i) : sownK x fs (k + 1) = Ind.sowS x (sownK x fs k) i := by
  unfold sownK
  have e : fs.drop (fs.length - (k + 1)) = fs[fs.length - (k + 1)] :: fs.drop (fs.length - (k + 1) + 1) := List.drop_eq_getElem_cons (by omega)
  rw [e, show fs.length - (k + 1) + 1 = fs.length - k by omega]
  have : fs[fs.length - (k + 1)] = i := by
    rw [← hi, List.getD_eq_getElem?_getD, show fs.length - 1 - k = fs.length - (k + 1) by omega, List.getElem?_eq_getElem (by omega)]
    rfl
  rw [this]
  rfl

theorem Blk.grown {W W' : World} {row : Option Nat} {b : Nat} {t : TypeId} {l : Array Value} (h : Blk W b t l) (hg : W.grownBy W' row) (hr : ∀ r, row = some r → ∃ o : Obj, W.heap[r]? = some o ∧ o.isCells = false) : Blk W' b t l :=
  ⟨(grownBy_keeps_cells hg hr h.out rfl).trans h.out⟩
theorem cell_new1 (W : World) (v : Value) (t : TypeId) : (W.alloc (.cells #[v] t)).cell? ⟨W.heap.size, 0, none⟩ = some v := (Blk.new W t #[v]).cell 0
theorem UpX.grown {F : Nat → Prop} {a b c : World} {row : Option Nat} (h : UpX F a b) (hg : b.grownBy c row) (hr : ∀ k, row = some k → a.heap.size ≤ k) : UpX F a c :=
  ⟨hg.os.trans h.os, hg.tape.trans h.tape, hg.output.trans h.output, Nat.le_trans h.size hg.size, fun k hk hF => (hg.block k (Nat.lt_of_lt_of_le hk h.size) (fun e => by have := hr k e.symm; omega)).trans (h.block k hk hF)⟩

/-- .. where the tails' block, a new one, may have changed as well. -/
theorem St.upx2 {w w' : World} {S O T : Nat} {x : List Int} {A : Option Addr} {ca : Nat} {B : Option Addr} {cb : Nat} {f : Nat → Bool} (h : St w S O x A ca B cb f) (hu : UpX (fun b => b = O ∨ b = T) w w')
    (hS : S ≠ T) (hA : ∀ ad, A = some ad → ad.block ≠ T) (hB : ∀ ad, B = some ad → ad.block ≠ T) : St w' S O x A ca B cb f where
  s := h.s.upx hu fun e => e.elim h.so hS
  rd := h.rd.upx hu fun ad e _ => fun e2 => e2.elim (h.ao ad e) (hA ad e)
  kd := ⟨fun i hi => by
    obtain ⟨ad, e, hc⟩ := h.kd.at_ i hi
    exact ⟨ad, e, hu.cell hc (by rw [add_block]; exact fun e2 => e2.elim (h.bo ad e) (hB ad e))⟩⟩
  so := h.so
  ao := h.ao
  bo := h.bo

set_option maxHeartbeats 4000000 in
theorem indSow_calls (S O b off : Nat) (x : List Int) (ca : Nat) (B : Option Addr) (cb : Nat) (f : Nat → Bool) (w : World) (hst : St w S O x (some ⟨b, off, none⟩) ca B cb f) (hx : 0 < x.length) (hl : x.length ≤ 65536)
    (m : Nat) (HM : Hid (Lib.maxOf x + 1 = (m : Int))) (hm : m ≤ 65536) (HR : Hid (∀ y ∈ x, 0 ≤ y ∧ y < (m : Int)))
    (fb fo fc : Nat) (fs : List Nat) (hfs : Rd w .i64 (some ⟨fb, fo, none⟩) fc (fs.map fun (i : Nat) => (i : Int))) (hfb : fb < w.heap.size) (hfO : fb ≠ O) (hfl : fs.length ≤ 65536)
    (hb : Blk w O 3 (cellsOf .i64 (List.replicate x.length (-1))))
    (HI : Hid (∀ k i, k < fs.length → fs.getD (fs.length - 1 - k) 0 = i → i < x.length ∧ (sownK x fs k).1.length = x.length ∧ 1 ≤ (sownK x fs k).2 (x.getD i 0) ∧ (sownK x fs k).2 (x.getD i 0) ≤ x.length)) :
    Calls Try.prog 63 #[.pointer (some ⟨S, 0, none⟩), .slice (some ⟨fb, fo, none⟩) fs.length fc] w fun e w' => e = .returned (.tuple #[]) ∧ Blk w' O 3 (cellsOf .i64 (Ind.sowN x fs).1) ∧ UpX (fun b => b = O) w w' := by
  refine (callsIn_wide (n := 5)).1 ?_
  have hSw := hst.s.lt
  have hbw : b < w.heap.size := World.block_lt_of_cell? w ((⟨b, off, none⟩ : Addr).add 0) (hst.rd.cell _ rfl 0 hx)
  have hBw : ∀ ad, B = some ad → ad.block < w.heap.size := fun ad e => by
    obtain ⟨ad', e', hc⟩ := hst.kd.at_ 0 hx
    rw [e] at e'
    cases e'
    have := World.block_lt_of_cell? w (ad.add 0) hc
    rwa [add_block] at this
  have hu0 : Up w (w.alloc (.cells #[.pointer (some ⟨S, 0, none⟩)] 76)) := (Up.refl w).alloc _
  have HB := Lib.hid (buckets_calls b off ca x _ (hst.rd.up hu0) hx hl m HM hm HR)
  clear HM
  have h0 : w.cell? ⟨S, 0, none⟩ = some (.slice (some ⟨b, off, none⟩) x.length ca) := by simpa using hst.s.cell 0
  have h0' := hu0.cell h0
  have hOlt := hb.lt
  refine callsIn_of_wp_marks Try.func63 rfl trivial ?_ rfl
  simp only [Try.ntmps63, List.size_toArray, List.length_cons, List.length_nil, Nat.reduceAdd, Nat.reduceSub, Array.replicate_succ, Array.replicate_zero, List.push_toArray, List.append_toArray, List.nil_append, List.cons_append]
  gi_wp2
  refine ⟨trivial, (callsIn_wide.2 HB.out).mono ?_⟩
  rintro en w1 ⟨H, T, rfl, hne, hHlo, hTlo, hbH, hbT, hu1⟩
  rw [tails_ctr] at hbT
  clear HB hbH hne hHlo h0 h0'
  gi_wp2
  refine ⟨trivial, (bwd_in Fence.wide 4 trivial rfl _ _ _ _).mono ?_⟩
  rintro en w2' ⟨rfl, rfl⟩
  have hc1 := cell_new1 w1 (.slice (some ⟨T, 0, none⟩) m m) 22
  have hc2 := cell_new1 (w1.alloc (.cells #[.slice (some ⟨T, 0, none⟩) m m] 22)) (.slice (some ⟨fb, fo, none⟩) fs.length fc) 22
  rw [World.size_alloc] at hc2
  have hua : Up w1 ((w1.alloc (.cells #[.slice (some ⟨T, 0, none⟩) m m] 22)).alloc (.cells #[.slice (some ⟨fb, fo, none⟩) fs.length fc] 22)) := ((Up.refl w1).alloc _).alloc _
  have hsz : ((w1.alloc (.cells #[.slice (some ⟨T, 0, none⟩) m m] 22)).alloc (.cells #[.slice (some ⟨fb, fo, none⟩) fs.length fc] 22)).heap.size = w1.heap.size + 2 := by simp
  have hB1 := ((Up.refl _).alloc (.cells #[.slice (some ⟨fb, fo, none⟩) fs.length fc] 22)).cell hc1
  have hB0 : ((w1.alloc (.cells #[.slice (some ⟨T, 0, none⟩) m m] 22)).alloc (.cells #[.slice (some ⟨fb, fo, none⟩) fs.length fc] 22)).cell? ⟨w.heap.size, 0, none⟩ = some (.pointer (some ⟨S, 0, none⟩)) := hua.cell (hu1.cell (cell_new1 w (.pointer (some ⟨S, 0, none⟩)) 76))
  have hB2 := hc2
  have huw := (hu0.trans hu1).trans hua
  have hTlt := hbT.lt
  have hTlo' : w.heap.size + 1 ≤ T := by simpa using hTlo
  have hbT2 := hbT.up hua
  have hbO2 := hb.up huw
  have hst2 := hst.upx (huw.x _)
  have hfs2 := hfs.up huw
  clear hc1 hc2 hbT hb hst hfs hTlo hua hu0 hu1
  gi_wp2
  generalize hw2 : (w1.alloc (.cells #[.slice (some ⟨T, 0, none⟩) m m] 22)).alloc (.cells #[.slice (some ⟨fb, fo, none⟩) fs.length fc] 22) = w2 at *
  clear hw2
  generalize w1.heap.size = tb at *
  clear w1
  generalize hsb : w.heap.size = sb at *
  obtain ⟨zs, hzs⟩ : ∃ zs, (fs.map fun (i : Nat) => (i : Int)) = zs := ⟨_, rfl⟩
  have hzl : zs.length = fs.length := by rw [← hzs, List.length_map]
  rw [hzs] at hfs2
  rw [← hzl] at hB2
  refine wpIn_range_at rfl (by omega) (gf := 99) (lb := #[.pointer (some ⟨tb + 1, 0, none⟩)]) rfl trivial (enters_of Try.func99 (by kernel_rfl) rfl)
    (bwd_at Fence.wide _ trivial rfl (by omega) (tb + 1) fb fo fc zs (by omega) w2 (by omega) (by omega) hB2 (fun j hj => by rw [← add_at, ← List.getD_eq_getElem?_getD]; exact hfs2.cell _ rfl j hj))
    (fun h k => KpB.trans h k) (fun W l o o' _ h hc _ => KpB.turn W l o o' h hc) (fun _ => rfl)
    (fun k W => Blk W O 3 (cellsOf .i64 (sownK x fs k).1) ∧ Blk W T 3 (cellsOf .i64 (ctr m (sownK x fs k).2)) ∧ UpX (fun c => c = O ∨ c = T) w2 W)
    (fun k W W' row h hg hr => ⟨h.1.grown hg fun r e => (hr r e).2, h.2.1.grown hg fun r e => (hr r e).2, h.2.2.grown hg fun r e => (hr r e).1⟩)
    ⟨by rw [sownK_zero]; exact hbO2, by rw [sownK_zero]; exact hbT2, UpX.refl _ _⟩
    (fun k => { tmps := #[.pointer (some ⟨S, 0, none⟩), .slice (some ⟨fb, fo, none⟩) fs.length fc, .pointer (some ⟨sb, 0, none⟩), undef, .slice (some ⟨H, 0, none⟩) m m, .pointer (some ⟨tb, 0, none⟩), undef, .int .i64 (zs[zs.length - 1 - k]?.getD 0), undef, .tuple #[.slice (some ⟨H, 0, none⟩) m m, .slice (some ⟨T, 0, none⟩) m m], .pointer (some ⟨S, 0, none⟩), .pointer (some ⟨S, 0, none⟩), .pointer (some ⟨S, 0, none⟩), .slice (some ⟨b, off, none⟩) x.length ca, .tuple #[.slice (some ⟨H, 0, none⟩) m m, .slice (some ⟨T, 0, none⟩) m m], .slice (some ⟨H, 0, none⟩) m m, .slice (some ⟨T, 0, none⟩) m m, .slice (some ⟨fb, fo, none⟩) fs.length fc, .func (.func 99) #[] #[.pointer (some ⟨tb + 1, 0, none⟩)], .int .i64 ((zs.length - 1 - k : Nat) : Int), .int .i64 (zs[zs.length - 1 - k]?.getD 0), undef, undef, undef, undef, undef, undef, undef, undef, undef, undef, undef, undef, undef, undef, undef, undef, undef, undef, undef, undef, undef, undef, undef], defers := [] }) ?assign ?body ?done
  case assign =>
    intro l k W K hK
    rw [hzl] at hK
    gi_wp2
    exact hK
  case body =>
    rintro l k W hk ⟨hbO, hbT, hU⟩
    have hk : k < fs.length := by omega
    obtain ⟨i, hi⟩ : ∃ i, fs.getD (fs.length - 1 - k) 0 = i := ⟨_, rfl⟩
    have hzi : zs[zs.length - 1 - k]?.getD 0 = (i : Int) := by
      rw [← hi, ← hzs, List.length_map]
      simp [List.getD_eq_getElem?_getD, show fs.length - 1 - k < fs.length by omega]
    rw [hzi]
    obtain ⟨hin, hlen, hh1, hh⟩ := HI.out k i hk hi
    have HST := Lib.hid (sownK_step x fs k i hk hi)
    clear hi hzi HI
    generalize sownK x fs k = st at *
    generalize sownK x fs (k + 1) = st' at HST ⊢
    obtain ⟨p, t⟩ := st
    simp only at hlen hh1 hh hbO hbT
    have hst' := hst2.upx2 hU (by omega) (fun ad e => by cases e; show b ≠ T; omega) (fun ad e => by have := hBw ad e; omega)
    have hS0 : W.cell? ⟨S, 0, none⟩ = some (.slice (some ⟨b, off, none⟩) x.length ca) := by simpa using hst'.s.cell 0
    have hB0' := hU.cell hB0 (by rintro (e | e) <;> simp at e <;> omega)
    have hB1' := hU.cell hB1 (by rintro (e | e) <;> simp at e <;> omega)
    obtain ⟨ad, y, eA, hc, HX, _⟩ := hst'.rd.get i hin
    cases eA
    rw [add_at] at hc
    have hmem : y ∈ x := by
      rw [← HX.out, List.getD_eq_getElem?_getD, List.getElem?_eq_getElem hin]; exact List.getElem_mem hin
    obtain ⟨hy0, hy1⟩ := HR.out y hmem
    clear hmem
    obtain ⟨c, rfl⟩ := Int.eq_ofNat_of_zero_le hy0
    have hcm : c < m := by omega
    have HLS := HST.out
    unfold Ind.sowS at HLS
    simp only at HLS
    rw [HX.out] at hh hh1 HLS
    clear HST
    have hgT := (hbT.cell c).trans (cellsOf_get _ _ c (by rw [ctr_len]; exact hcm))
    rw [ctr_get _ _ _ hcm] at hgT
    have hfT := hbT.frozen c
    obtain ⟨h, hhe⟩ : ∃ h, t (c : Int) = h + 1 := ⟨t (c : Int) - 1, by omega⟩
    have HCS := Lib.hid (ctr_set m t c h)
    rw [hhe] at hgT hh HLS
    rw [Nat.add_sub_cancel] at HLS
    have HE := Lib.hid HLS
    have hTO : T ≠ O := by omega
    have he1 : ((h + 1 : Nat) : Int) = (h : Int) + 1 := by omega
    rw [he1] at hgT
    have he2 : (h : Int) + 1 - 1 = (h : Int) := by omega
    clear hh1 he1 hy0 hy1 HLS
    have hbT2 := hbT.set c (.int .i64 (h : Int))
    rw [cellsOf_set, HCS.out] at hbT2
    have hbO2 := hbO.other ⟨T, c, none⟩ (.int .i64 (h : Int)) (Ne.symm hTO)
    have hU2 : UpX (fun b => b = O ∨ b = T) w2 (W.setCell ⟨T, c, none⟩ (.int .i64 (h : Int))) := hU.setCell (fun _ => .inr rfl) _
    have hK1 : KeepsOthers W (W.setCell ⟨T, c, none⟩ (.int .i64 (h : Int))) := KeepsOthers.setCell _ _ _
    have hP1 : KpB (tb + 1) fb W (W.setCell ⟨T, c, none⟩ (.int .i64 (h : Int))) := ⟨fun {p v} hp hc => (UpX.one W T c (.int .i64 (h : Int))).cell hc (by rcases hp with e | e <;> rw [e] <;> omega)⟩
    have HBT := Lib.hid hbT2
    have HBO := Lib.hid hbO2
    have HU2 := Lib.hid hU2
    have HK1 := Lib.hid hK1
    have HP1 := Lib.hid hP1
    clear hbT hbO hbT2 hbO2 hU2 hst' hK1 hP1
    gi_wp2
    clear hc hgT hfT hS0 hB0' hB1' hU
    have hbT := HBT.out
    have hbO := HBO.out
    have hU := HU2.out
    clear HBT HBO HU2
    generalize W.setCell ⟨T, c, none⟩ (.int .i64 (h : Int)) = w3 at *
    have hst3 := hst2.upx2 hU (by omega) (fun ad e => by cases e; show b ≠ T; omega) (fun ad e => by have := hBw ad e; omega)
    have hS2 : w3.cell? ⟨S, 2, none⟩ = some (.slice (some ⟨O, 0, none⟩) x.length x.length) := by simpa using hst3.s.cell 2
    have hB0' := hU.cell hB0 (by rintro (e | e) <;> simp at e <;> omega)
    have hB1' := hU.cell hB1 (by rintro (e | e) <;> simp at e <;> omega)
    have hgT := (hbT.cell c).trans (cellsOf_get _ _ c (by rw [ctr_len]; exact hcm))
    rw [ctr_get _ _ _ hcm, show Ind.upd t (c : Int) h (c : Int) = h by simp [Ind.upd]] at hgT
    have hgO := (hbO.cell h).trans (cellsOf_get _ _ h (by omega))
    generalize p.getD h 0 = pv at hgO
    have hfO := hbO.frozen h
    have HBO := Lib.hid hbO
    have HBT := Lib.hid hbT
    clear hbO hbT hst3 HX
    refine wpIn_region_tree (Cells [(⟨sb, 0, none⟩, .pointer (some ⟨S, 0, none⟩)), (⟨S, 2, none⟩, .slice (some ⟨O, 0, none⟩) x.length x.length), (⟨tb, 0, none⟩, .slice (some ⟨T, 0, none⟩) m m), (⟨T, c, none⟩, .int .i64 (h : Int))]) (.quiet 0 (.quiet 1 (.quiet 2 (.quiet 3 (.quiet 4 (.quiet 5 (.quiet 6 (.quiet 7 (.quiet 8 (.quiet 9 (.alt 10 (.nil) (.stop)))))))))))) (by kernel_rfl) (by kernel_rfl) rfl (by kernel_rfl) (by kernel_rfl) (by kernel_rfl) (Cells.cons hB0' (Cells.cons hS2 (Cells.cons hB1' (Cells.cons hgT (Cells.nil _))))) ?_
    simp only [pickT, List.getElem?_cons_succ, List.getElem?_cons_zero, Option.getD_some]
    refine tree_load ⟨sb, 0, none⟩ (.pointer (some ⟨S, 0, none⟩)) (by kernel_rfl) rfl (by kernel_rfl) (fun w' h => h.head) ?_
    dsimp only [Act.put]
    simp only [List.setIfInBounds_toArray, List.set_cons_zero, List.set_cons_succ]
    repeat (refine tree_step rfl (fun K hK => ?_); go_big_quiet_step ((intro _; rfl)); refine wpQuiet_nil (hK _ ?_); clear hK K)
    refine tree_load ⟨S, 2, none⟩ (.slice (some ⟨O, 0, none⟩) x.length x.length) (by kernel_rfl) rfl (by kernel_rfl) (fun w' h => h.tail.head) ?_
    dsimp only [Act.put]
    simp only [List.setIfInBounds_toArray, List.set_cons_zero, List.set_cons_succ]
    refine tree_load ⟨tb, 0, none⟩ (.slice (some ⟨T, 0, none⟩) m m) (by kernel_rfl) rfl (by kernel_rfl) (fun w' h => h.tail.tail.head) ?_
    dsimp only [Act.put]
    simp only [List.setIfInBounds_toArray, List.set_cons_zero, List.set_cons_succ]
    repeat (refine tree_step rfl (fun K hK => ?_); go_big_quiet_step ((intro _; rfl)); refine wpQuiet_nil (hK _ ?_); clear hK K)
    refine tree_load ⟨T, c, none⟩ (.int .i64 (h : Int)) (by kernel_rfl) rfl (by kernel_rfl) (fun w' h => h.tail.tail.tail.head) ?_
    dsimp only [Act.put]
    simp only [List.setIfInBounds_toArray, List.set_cons_zero, List.set_cons_succ]
    repeat (refine tree_step rfl (fun K hK => ?_); go_big_quiet_step ((intro _; rfl)); refine wpQuiet_nil (hK _ ?_); clear hK K)
    refine tree_do (fun K hK => ?_)
    go_wp2_with fail
    refine ⟨trivial, ?_⟩
    refine tree_nil ?_
    have HKK := Lib.hid (show KeepsOthers W (w3.setCell ⟨O, h, none⟩ (.int .i64 (i : Int))).drew from (HK1.out.trans (KeepsOthers.setCell _ _ _)).trans ⟨Nat.le_refl _, fun _ _ h _ => h⟩)
    have HPP := Lib.hid (show KpB (tb + 1) fb W (w3.setCell ⟨O, h, none⟩ (.int .i64 (i : Int))).drew from HP1.out.trans ⟨fun {p v} hp hc => (UpX.one w3 O h (.int .i64 (i : Int))).drew.cell hc (by rcases hp with e | e <;> rw [e] <;> omega)⟩)
    have HUU := Lib.hid (show UpX (fun b => b = O ∨ b = T) w2 (w3.setCell ⟨O, h, none⟩ (.int .i64 (i : Int))).drew from (hU.setCell (p := ⟨O, h, none⟩) (fun _ => .inl rfl) _).drew)
    clear hU hS2 hB0' hB1' hgT hgO hfO
    gi_wp2
    refine ⟨HKK.out, HPP.out, ?_, ?_, HUU.out⟩
    · rw [HE.out]
      have := (HBO.out.set h (.int .i64 (i : Int))).drew
      rw [cellsOf_set] at this
      exact this
    · rw [HE.out]; exact (HBT.out.other ⟨O, h, none⟩ (.int .i64 (i : Int)) hTO).drew
  case done =>
    rintro D W hD ⟨hbO, _, hU⟩ hK
    rw [hzl] at hbO
    rw [sownK_all] at hbO
    gi_wp2
    refine ⟨by simp, .inl ⟨_, _, rfl, run_takeDeferred hK, ?_⟩⟩
    have hKK : ∀ r, some D = some r → ∃ o : Obj, W.heap[r]? = some o ∧ o.isCells = false := fun r e => by cases e; exact ⟨_, hK, rfl⟩
    exact ⟨_, results_none rfl _ _ _, rfl, hbO.grown (grownBy_putObj' W D (.deferred none)) hKK, (UpX.mono (huw.x _) (fun _ _ h => h)).then_ (hU.grown (grownBy_putObj' W D (.deferred none)) (fun r e => by cases e; exact hD)) (fun q hq h => by omega)⟩
end Go.Proofs.Ytmmacpicbonhhaa
