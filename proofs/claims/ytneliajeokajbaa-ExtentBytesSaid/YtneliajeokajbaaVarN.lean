/- Several texts in one: VarPuts, VarList, VarText, VarRefGet, VarTexts. -/
import Derived.Test.YtneliajeokajbaaVarM
import Derived.Deep.LoopGhost
/- VarintPuts: the law's walk. -/
namespace Go.Proofs.Ytneliajeokajbaa
open Go.RowKit
set_option maxRecDepth 100000

theorem refSame_eq {A B : Option Addr} {c d n m : Nat} {l k : List Int} {w : World} (h1 : Rd w .u8 A c l) (h2 : Rd w .u8 B d k) (hn : n = l.length) (hm : m = k.length) (h : l = k) :
    Calls Try.prog 64 #[.slice A n c, .slice B m d] w fun e w' => e = .returned (.bool true) ∧ Qt w w' := by
  have := refSame_n h1 h2 hn hm
  rwa [decide_eq_true h] at this
/-- The least of a length and a bound, as the walk reckons it. -/
theorem min_of {w : World} {k : IntKind} {A : Option Addr} {c : Nat} {l : List Int} (h : Rd w k A c l) (b : Nat) :
    ∃ m : Nat, (if (b : Int) < (l.length : Int) then (b : Int) else (l.length : Int)) = (m : Int) ∧ (m : Int) ≤ (c : Int) ∧ (m : Int) ≤ (b : Int) ∧ Hid (m = (l.take b).length) ∧ Rd w k A c (l.take b) :=
  ⟨min l.length b, by split <;> omega, by have := h.le; omega, by omega, Lib.hid (by rw [List.length_take, Nat.min_comm]), h.take b⟩
theorem own_empty (w : World) (e : Nat) (k : IntKind) : Own (w.alloc (.cells #[] e)) w.heap.size e k (.slice (some ⟨w.heap.size, 0, none⟩) 0 0) [] := Own.lit w _ _ _ [] (Nat.le_refl _) (by simp) (by simp) 0 rfl _ rfl

/-- The bytes of those numbers that have any. -/
def putAll (l : List Int) : List Int := ((l.filter (fun x => decide (0 ≤ x))).map (fun x => vput x.toNat)).flatten
theorem putAll_snoc (l : List Int) (x : Int) : putAll (l ++ [x]) = putAll l ++ (if 0 ≤ x then vput x.toNat else []) := by
  unfold putAll
  rw [List.filter_append, List.map_append, List.flatten_append]
  congr 1
  by_cases h : 0 ≤ x
  · simp [h]
  · simp [h]
theorem putAll_len (l : List Int) (h : ∀ x ∈ l, InK .i64 x) : (putAll l).length ≤ 10 * l.length := by
  have h1 := vflat_len (l.filter (fun x => decide (0 ≤ x))) (fun x hx => h x (List.mem_filter.1 hx).1)
  have h2 := List.length_filter_le (fun x => decide (0 ≤ x)) l
  unfold putAll
  omega
theorem putAll_all (l : List Int) (h : ∀ x ∈ l, 0 ≤ x) : putAll l = vputs l := by
  rw [vputs_some l h]
  unfold putAll
  rw [List.filter_eq_self.2 (fun x hx => by simpa using h x hx)]

theorem infoInt : (Try.prog.info? 3).map (fun i => (i.zero, i.size, i.bytes)) = some (some (.int .i64 0), 1, 8) := by kernel_rfl

theorem vputs_len (l : List Int) (h : ∀ x ∈ l, InK .i64 x) : (vputs l).length ≤ 10 * l.length := by
  unfold vputs
  split
  · exact vflat_len l h
  · simp
theorem vputs_ge (l : List Int) (h : ∀ x ∈ l, 0 ≤ x) : l.length ≤ (vputs l).length := by
  rw [vputs_some l h]
  clear h
  induction l with
  | nil => simp
  | cons x t ih =>
    have := vput_pos x.toNat
    simp only [List.map_cons, List.flatten_cons, List.length_append, List.length_cons]
    omega

set_option maxHeartbeats 1000000 in
theorem varList_neg (A : Option Addr) (c : Nat) (l : List Int) (w : World) (h1 : Rd w .i64 A c l) (hb : 10 * l.length ≤ 140737488355000) (hn : ¬ ∀ x ∈ l, 0 ≤ x) :
    Calls Try.prog 93 #[.slice A l.length c] w (RetOwn w 5 .u8 []) := by
  have HN : Hid (vputs l = []) := Lib.hid (by unfold vputs; rw [if_neg hn])
  have hl0 : 0 < l.length := by
    rcases Nat.eq_zero_or_pos l.length with h | h
    · rw [List.eq_nil_of_length_eq_zero h] at hn
      exact absurd (by simp) hn
    · exact h
  have hlen := h1.len
  clear hn
  go_enter Try.func93, Try.ntmps93
  go_wp2_with fail
  refine (varPut_calls A c l w h1 hb).mono ?_
  rw [HN.out]
  rintro e w1 ⟨v1, rfl, hv1, hu1⟩
  obtain ⟨B1, d1, rfl, hr1⟩ := hv1.rd
  go_wp2_with fail
  go_ret
  exact RetOwn.of (Own.nil _ _ _ _) hu1

set_option maxHeartbeats 1000000 in
theorem varList_pos (A : Option Addr) (c : Nat) (l : List Int) (w : World) (h1 : Rd w .i64 A c l) (hb : 10 * l.length ≤ 140737488355000) (hn : ∀ x ∈ l, 0 ≤ x) :
    Calls Try.prog 93 #[.slice A l.length c] w (RetOwn w 5 .u8 (vput l.length ++ vputs l)) := by
  have HG := Lib.hid (vputs_ge l hn)
  have HL := Lib.hid (vputs_len l h1.wf)
  have hlen := h1.len
  clear hn
  go_enter Try.func93, Try.ntmps93
  go_wp2_with fail
  refine (varPut_calls A c l w h1 hb).mono ?_
  generalize hp : vputs l = p at *
  clear hp
  rintro e w1 ⟨v1, rfl, hv1, hu1⟩
  obtain ⟨B1, d1, rfl, hr1⟩ := hv1.rd
  have hge := HG.out
  have hr2 := rd_one w1 .i64 3 (l.length : Int) (InK.of_i64 (by omega) (by omega))
  have hu2 : Up w1 (w1.alloc (.cells #[.int .i64 l.length] 3)) := (Up.refl _).alloc _
  have hlt1 := hv1.lt
  have HVP := Lib.hid (vput_len10 l.length (by omega))
  go_wp2_with fail
  refine (varPut_n hr2 (by simp) rfl).mono ?_
  rw [vputs_one _ (by omega), Int.toNat_natCast]
  rintro e w3 ⟨v3, rfl, hv3, hu3⟩
  have hv3' := hv3.mono (show w1.heap.size ≤ (w1.alloc (.cells #[.int .i64 l.length] 3)).heap.size by simp)
  go_wp2_with (refine wpl_append (t := 76) w1.heap.size 5 .u8 1 Try.underlying76 infoU8 v3 _ rfl hv3' B1 _ d1 p rfl rfl ((hr1.up hu2).up hu3) (by have := HVP.out; have := HL.out; omega) (by decide) (hu2.trans hu3).size ?_; intro v4 w4 hv4 hu4 _)
  go_ret
  exact RetOwn.of (hv4.mono hu1.size) (hu1.trans ((hu2.trans hu3).thenx hu4 fun i hi e => by have := (hv3'.lt i e).1; omega))

set_option maxHeartbeats 1000000 in
theorem ref2List_calls (A : Option Addr) (c : Nat) (l : List Int) (w : World) (h1 : Rd w .i64 A c l) (hb : 10 * l.length ≤ 140737488355000) (hn : ∀ x ∈ l, 0 ≤ x) :
    Calls Try.prog 71 #[.slice A l.length c] w (RetOwn w 5 .u8 (vput l.length ++ vputs l)) := by
  have hlen := h1.len
  have HN := Lib.hid hn
  clear hn
  have HVP := Lib.hid (vput_len10 l.length (by omega))
  go_enter Try.func71, Try.ntmps71
  go_wp2_with fail
  refine (ref2Put_calls l.length w (by omega)).mono ?_
  rintro e w1 ⟨v1, rfl, hv1, hu1⟩
  go_wp2_with fail
  go_loopw [3, 4] (fun o i wr => ∃ k : Nat, k ≤ l.length ∧ i = .int .i64 k ∧ Own wr w.heap.size 5 .u8 o (vput l.length ++ ((l.take k).map (fun x => vput x.toNat)).flatten) ∧ Up w wr) (fun _ i _ => l.length - (intOf i).toNat)
  case atStart => exact ⟨0, by omega, rfl, by simpa using hv1, hu1⟩
  case round =>
    obtain ⟨k, hk, rfl, ho, hu⟩ := hrel
    by_cases hlt : k < l.length
    · obtain ⟨ad, x, rfl, hcell, HX, hxr⟩ := h1.get k hlt
      have hcell' := hu.cell hcell
      have hx2 := hxr.i64
      have HT := Lib.hid (take_succ_getD l k 0 hlt)
      have h0 : 0 ≤ x := by
        have := HN.out (l.getD k 0) (by rw [List.getD_eq_getElem?_getD, List.getElem?_eq_getElem hlt]; exact List.getElem_mem hlt)
        rwa [HX.out] at this
      obtain ⟨m, rfl⟩ := Int.eq_ofNat_of_zero_le h0
      have HDL := Lib.hid (show ((l.take k).map (fun x => vput x.toNat)).flatten.length ≤ 10 * l.length by
        have := vflat_len (l.take k) (fun x hx => h1.wf x (List.mem_of_mem_take hx))
        have h2 := List.length_take_le' k l
        omega)
      have HML := Lib.hid (vput_len10 m (by omega))
      generalize hD : ((l.take k).map (fun x => vput x.toNat)).flatten = D at *
      have HD := Lib.hid hD
      clear hD
      have hlo := ho.lt
      go_wp2_with fail
      refine (ref2Put_calls m wr (by omega)).mono ?_
      rintro e w2 ⟨v2, rfl, hv2, hu2⟩
      obtain ⟨B2, d2, rfl, hr2⟩ := hv2.rd
      have hU2 := hu.trans hu2
      go_wp2_with (refine wpl_append (t := 76) w.heap.size 5 .u8 1 Try.underlying76 infoU8 u3 _ rfl (ho.up hu2) B2 _ d2 (vput m) rfl rfl hr2 (by have := HVP.out; have := HDL.out; have := HML.out; rw [List.length_append]; omega) (by decide) hU2.size ?_; intro v4 w4 hv4 hu4 _)
      go_roundw
      case rel =>
        refine ⟨k + 1, by omega, by simp, ?_, hU2.thenx hu4 fun i hi e => by have := (hlo i e).1; omega⟩
        rw [HT.out, HX.out, List.map_append, List.flatten_append, HD.out]
        simpa using hv4
      case measure => simp [intOf]; omega
    · have hke : k = l.length := by omega
      subst hke
      rw [List.take_length, ← vputs_some l HN.out] at ho
      go_wp2_with fail
      go_ret
      exact RetOwn.of ho hu
end Go.Proofs.Ytneliajeokajbaa

/- The walks of varint's Text and GetText. -/
namespace Go.Proofs.Ytneliajeokajbaa
open Go.RowKit
set_option maxRecDepth 100000

def texts (ls : List (List Int)) : List Int := (ls.map (fun b => vput b.length ++ b)).flatten
theorem texts_snoc (ls : List (List Int)) (b : List Int) : texts (ls ++ [b]) = texts ls ++ (vput b.length ++ b) := by
  unfold texts
  rw [List.map_append, List.flatten_append]
  simp
theorem texts_take (ls : List (List Int)) (k : Nat) : (texts (ls.take k)).length ≤ (texts ls).length := by
  have h := List.take_append_drop k ls
  have e : texts ls = texts (ls.take k) ++ texts (ls.drop k) := by
    conv => lhs; rw [← h]
    unfold texts
    rw [List.map_append, List.flatten_append]
  rw [e, List.length_append]
  omega

def tget (l : List Int) : List Int × List Int × Nat :=
  let r := vget 9223372036854775807 l 0 0
  if r.2.2 ≠ 0 then ([], [], r.2.2) else if (l.drop r.2.1).length < r.1 then ([], [], 4) else ((l.drop r.2.1).take r.1, (l.drop r.2.1).drop r.1, 0)

theorem tget_of {l : List Int} {m j f : Nat} (hr : vget 9223372036854775807 l 0 0 = (m, j, f)) : tget l = if f ≠ 0 then ([], [], f) else if (l.drop j).length < m then ([], [], 4) else ((l.drop j).take m, (l.drop j).drop m, 0) := by
  unfold tget
  rw [hr]

structure TextPost (w : World) (r : List Int × List Int × Nat) (en : Ending) (w' : World) : Prop where mk ::
  out : ∃ v1 v2, en = .returned (.tuple #[v1, v2, .int .i64 r.2.2]) ∧ Own w' w.heap.size 5 .u8 v1 r.1 ∧ Own w' w.heap.size 5 .u8 v2 r.2.1 ∧ Up w w'

def clip6 (ls : List (List Int)) : List (List Int) := (ls.take 6).map (·.take 200)
theorem clip6_upto (ls : List (List Int)) (k : Nat) (h6 : k < 6) (hk : k < ls.length) : clip6 (ls.take (k + 1)) = clip6 (ls.take k) ++ [(ls.getD k []).take 200] := by
  unfold clip6
  rw [List.take_take, List.take_take, show min 6 (k + 1) = k + 1 by omega, show min 6 k = k by omega, take_succ_getD ls k [] hk]
  simp
theorem clip6_all (ls : List (List Int)) (k : Nat) (h : k = min ls.length 6) : clip6 (ls.take k) = clip6 ls := by
  unfold clip6
  rw [List.take_take]
  congr 1
  rcases Nat.le_total ls.length 6 with h1 | h1
  · rw [List.take_of_length_le (by omega), List.take_of_length_le (by omega)]
  · congr 1; omega
theorem clip6_len (ls : List (List Int)) : (clip6 ls).length ≤ 6 := by
  unfold clip6
  simp only [List.length_map]
  exact List.length_take_le _ _
theorem texts_len (ls : List (List Int)) (h : ∀ b ∈ ls, b.length ≤ 200) : (texts ls).length ≤ 210 * ls.length := by
  induction ls with
  | nil => simp [texts]
  | cons b t ih =>
    have h1 := h b (by simp)
    have h2 := vput_len10 b.length (by omega)
    have h3 := ih fun x hx => h x (by simp [hx])
    have e : texts (b :: t) = vput b.length ++ b ++ texts t := by simp [texts]
    rw [e, List.length_append, List.length_append, List.length_cons]
    omega
theorem clip6_texts (ls : List (List Int)) : (texts (clip6 ls)).length ≤ 1260 := by
  have h := texts_len (clip6 ls) (by
    unfold clip6
    intro b hb
    obtain ⟨x, _, rfl⟩ := List.mem_map.1 hb
    exact List.length_take_le _ _)
  have := clip6_len ls
  omega
theorem tget_texts (s : List Int) (t : List (List Int)) (h : s.length ≤ 9223372036854775807) : tget (texts (s :: t)) = (s, texts t, 0) := by
  have e : texts (s :: t) = vput s.length ++ (s ++ texts t) := by simp [texts]
  rw [e, tget_of (vget_vput 9223372036854775807 _ (by omega) s.length h)]
  simp
theorem vget_at (g : Nat) (l : List Int) (i n : Nat) : (vget g l i n).2.1 ≤ i + l.length := by
  induction l generalizing i n with
  | nil => simp [vget]
  | cons c t ih =>
    rw [vget]
    split
    · simp
    · split
      · simp only [List.length_cons]; omega
      · have := ih (i + 1) (n + c.toNat % 128 * 2 ^ (7 * i))
        simp only [List.length_cons]; omega

structure TextRel (w : World) (ls : List (List Int)) (x all : Value) (k : Nat) (wr : World) : Prop where mk ::
  out : ∃ vs, OwnV wr w.heap.size 76 x vs ∧ Vals (fun b => b < w.heap.size) w .u8 vs (clip6 (ls.take k)) ∧ Own wr w.heap.size 5 .u8 all (texts (clip6 (ls.take k))) ∧ Up w wr

theorem infoBytes6 : (Try.prog.info? 76).map (fun i => (i.zero, i.size, i.bytes)) = some (some (.slice none 0 0), 1, 24) := by kernel_rfl

end Go.Proofs.Ytneliajeokajbaa
