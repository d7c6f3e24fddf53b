/- Layer 3, plain: a device as lists; what a crash keeps. No program in sight. -/
import Derived.Test.YtehdigkjbobndaaCopy
namespace Go.Proofs.Ytehdigkjbobndaa

/-- What a crash keeps of a page: the page, how many versions, how much of the next one. -/
structure KeepS where
  page : Int
  n : Int
  part : Int
/-- How many versions of so many survive. -/
def kept (k : KeepS) (len : Nat) : Nat := min (max k.n 0).toNat len
/-- What a page holds behind a crash: p was laid, l waits. -/
def crashPage (k : KeepS) (l : List (List Int)) (p : List Int) : List Int :=
  let n := kept k l.length
  let q := if 0 < n then l.getD (n - 1) [] else p
  if n < l.length then laid q 0 ((l.getD n []).take (min (max k.part 0) 256).toNat) else q
/-- Pages, what waits for each, how many versions have survived. -/
structure CrS where
  pg : List (List Int)
  wt : Int → List (List Int)
  n : Nat
def crashOne (s : CrS) (k : KeepS) : CrS :=
  if s.wt k.page = [] then s else
  ⟨s.pg.set k.page.toNat (crashPage k (s.wt k.page) (s.pg.getD k.page.toNat [])), fun q => if q = k.page then [] else s.wt q, s.n + kept k (s.wt k.page).length⟩
def crashAll (ks : List KeepS) (s : CrS) : CrS := ks.foldl crashOne s

/-- The first that speaks of a page. -/
def keepOf (ks : List KeepS) (p : Int) : Option KeepS := ks.find? fun k => decide (k.page = p)
/-- What a page holds, and how many of its versions survive: by the first that speaks of it. -/
def crashAt (ks : List KeepS) (p : Int) (l : List (List Int)) (q : List Int) : List Int := match keepOf ks p with | none => q | some k => if l = [] then q else crashPage k l q
def keptAt (ks : List KeepS) (p : Int) (l : List (List Int)) : Nat := match keepOf ks p with | none => 0 | some k => kept k l.length
def sumTo (f : Nat → Nat) : Nat → Nat
  | 0 => 0
  | n + 1 => sumTo f n + f n
theorem sumTo_congr {f g : Nat → Nat} : ∀ {n : Nat}, (∀ i, i < n → f i = g i) → sumTo f n = sumTo g n
  | 0, _ => rfl
  | n + 1, h => by rw [sumTo, sumTo, sumTo_congr (fun i hi => h i (by omega)), h n (by omega)]
theorem sumTo_one {f g : Nat → Nat} {p d : Nat} : ∀ {n : Nat}, p < n → (∀ i, i < n → i ≠ p → f i = g i) → f p = g p + d → sumTo f n = sumTo g n + d
  | 0, h, _, _ => by omega
  | n + 1, h, h1, h2 => by
    rw [sumTo, sumTo]
    by_cases e : p = n
    · subst e
      rw [sumTo_congr fun i hi => h1 i (by omega) (by omega), h2]
      omega
    · rw [sumTo_one (show p < n by omega) (fun i hi => h1 i (by omega)) h2, h1 n (by omega) (fun e' => e e'.symm)]
      omega
theorem sumTo_zero {f : Nat → Nat} : ∀ {n : Nat}, (∀ i, i < n → f i = 0) → sumTo f n = 0
  | 0, _ => rfl
  | n + 1, h => by rw [sumTo, sumTo_zero (fun i hi => h i (by omega)), h n (by omega)]

/-- Only pages that are there have versions. -/
def WtIn (s : CrS) : Prop := ∀ p, s.wt p ≠ [] → 0 ≤ p ∧ p < (s.pg.length : Int)
theorem crashOne_in {s : CrS} (h : WtIn s) (k : KeepS) : WtIn (crashOne s k) := by
  unfold crashOne
  split
  · exact h
  · intro p hp
    simp only at hp ⊢
    split at hp
    · exact absurd rfl hp
    · rw [List.length_set]; exact h p hp
theorem crashOne_len (s : CrS) (k : KeepS) : (crashOne s k).pg.length = s.pg.length := by
  unfold crashOne
  split
  · rfl
  · simp
theorem crashAll_len : ∀ (ks : List KeepS) (s : CrS), (crashAll ks s).pg.length = s.pg.length
  | [], _ => rfl
  | k :: ks, s => by
    show (crashAll ks (crashOne s k)).pg.length = _
    rw [crashAll_len ks, crashOne_len]
theorem crashAll_spec : ∀ (ks : List KeepS) (s : CrS), WtIn s →
    (∀ p : Nat, p < s.pg.length → (crashAll ks s).pg.getD p [] = crashAt ks p (s.wt p) (s.pg.getD p [])) ∧
    (crashAll ks s).n = s.n + sumTo (fun p => keptAt ks p (s.wt p)) s.pg.length
  | [], s, _ => ⟨fun p _ => rfl, by
      have h0 : sumTo (fun p => keptAt [] p (s.wt p)) s.pg.length = 0 := sumTo_zero fun i _ => rfl
      rw [h0]
      rfl⟩
  | k :: ks, s, h => by
    have hd := crashOne_in h k
    obtain ⟨h1, h2⟩ := crashAll_spec ks (crashOne s k) hd
    rw [crashOne_len] at h1 h2
    by_cases he : s.wt k.page = []
    · have e1 : crashOne s k = s := by unfold crashOne; rw [if_pos he]
      rw [e1] at h1 h2
      have aux : ∀ p : Int, (keepOf (k :: ks) p = keepOf ks p) ∨ s.wt p = [] := fun p => by
        by_cases hp : k.page = p
        · exact .inr (hp ▸ he)
        · refine .inl ?_
          unfold keepOf
          rw [List.find?_cons_of_neg (by simpa using hp)]
      have hk0 : ∀ q : KeepS, kept q 0 = 0 := fun q => by unfold kept; omega
      refine ⟨fun p hp => ?_, ?_⟩
      · show (crashAll ks (crashOne s k)).pg.getD p [] = _
        rw [e1, h1 p hp]
        rcases aux p with h3 | h3
        · unfold crashAt; rw [h3]
        · rw [h3]
          have : ∀ ks' : List KeepS, crashAt ks' p [] (s.pg.getD p []) = s.pg.getD p [] := fun ks' => by unfold crashAt; split <;> simp
          rw [this, this]
      · show (crashAll ks (crashOne s k)).n = _
        rw [e1, h2]
        congr 1
        refine sumTo_congr fun p _ => ?_
        rcases aux p with h3 | h3
        · unfold keptAt; rw [h3]
        · rw [h3]
          have : ∀ ks' : List KeepS, keptAt ks' p [] = 0 := fun ks' => by unfold keptAt; split <;> simp [hk0]
          rw [this, this]
    · obtain ⟨hp0, hp1⟩ := h _ he
      obtain ⟨q, hq⟩ := Int.eq_ofNat_of_zero_le hp0
      have hql : q < s.pg.length := by omega
      have e1 : crashOne s k = ⟨s.pg.set q (crashPage k (s.wt q) (s.pg.getD q [])), fun p => if p = k.page then [] else s.wt p, s.n + kept k (s.wt q).length⟩ := by
        unfold crashOne
        rw [if_neg he, hq]
        simp
      rw [hq] at he
      have hkq : keepOf (k :: ks) (q : Int) = some k := by unfold keepOf; rw [List.find?_cons_of_pos (by simp [hq])]
      have hko : ∀ p : Nat, p ≠ q → keepOf (k :: ks) (p : Int) = keepOf ks p := fun p hp => by
        unfold keepOf
        rw [List.find?_cons_of_neg (by rw [hq]; simp; omega)]
      have hk0 : ∀ q : KeepS, kept q 0 = 0 := fun q => by unfold kept; omega
      refine ⟨fun p hp => ?_, ?_⟩
      · show (crashAll ks (crashOne s k)).pg.getD p [] = _
        rw [h1 p hp, e1]
        simp only
        by_cases hpq : p = q
        · subst hpq
          rw [hq, if_pos rfl]
          have h3 : crashAt (k :: ks) p (s.wt p) (s.pg.getD p []) = crashPage k (s.wt p) (s.pg.getD p []) := by
            unfold crashAt; rw [hkq]; simp only; rw [if_neg he]
          have h4 : ∀ x, crashAt ks p [] x = x := fun x => by unfold crashAt; split <;> simp
          rw [h3, h4, List.getD_eq_getElem?_getD, List.getElem?_set_self hql]
          rfl
        · rw [if_neg (by rw [hq]; omega)]
          have h3 : crashAt (k :: ks) p (s.wt p) (s.pg.getD p []) = crashAt ks p (s.wt p) (s.pg.getD p []) := by unfold crashAt; rw [hko p hpq]
          rw [h3, List.getD_eq_getElem?_getD, List.getElem?_set_ne (fun e => hpq e.symm), ← List.getD_eq_getElem?_getD]
      · show (crashAll ks (crashOne s k)).n = _
        rw [h2, e1]
        simp only
        have h5 := sumTo_one (f := fun p => keptAt (k :: ks) p (s.wt p)) (g := fun p => keptAt ks p (if (p : Int) = k.page then [] else s.wt p)) (p := q) (d := kept k (s.wt q).length) hql
          (fun i _ hi => by
            show keptAt (k :: ks) i (s.wt i) = keptAt ks i (if (i : Int) = k.page then [] else s.wt i)
            rw [if_neg (by rw [hq]; omega)]
            unfold keptAt; rw [hko i hi])
          (by
            show keptAt (k :: ks) q (s.wt q) = keptAt ks q (if (q : Int) = k.page then [] else s.wt q) + _
            rw [if_pos hq.symm]
            unfold keptAt; rw [hkq]
            simp only
            split <;> simp [hk0])
        omega
end Go.Proofs.Ytehdigkjbobndaa
