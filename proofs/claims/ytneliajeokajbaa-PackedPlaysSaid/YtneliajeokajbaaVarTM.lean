/- Several texts in one: VarText, VarRefGet, VarTexts. -/
import Derived.Test.YtneliajeokajbaaVarGet
import Derived.Test.YtneliajeokajbaaVarPut
import Derived.Deep.LoopGhost
import Derived.Test.YtneliajeokajbaaVarPuts
/- The walks of varint's Text and GetText. -/
namespace Go.Proofs.Ytneliajeokajbaa
open Go.RowKit
set_option maxRecDepth 100000

def texts (ls : List (List Int)) : List Int := (ls.map (fun b => vput b.length ++ b)).flatten
theorem texts_snoc (ls : List (List Int)) (b : List Int) : texts (ls ++ [b]) = texts ls ++ (vput b.length ++ b) := by
  unfold texts
  rw [List.map_append, List.flatten_append]
  simp
theorem texts_take (ls : List (List Int)) (k : Nat) : (texts (ls.take k)).length ≤ (texts ls).length := by
  have h := List.take_append_drop k ls
  have e : texts ls = texts (ls.take k) ++ texts (ls.drop k) := by
    conv => lhs; rw [← h]
    unfold texts
    rw [List.map_append, List.flatten_append]
  rw [e, List.length_append]
  omega

def tget (l : List Int) : List Int × List Int × Nat :=
  let r := vget 9223372036854775807 l 0 0
  if r.2.2 ≠ 0 then ([], [], r.2.2) else if (l.drop r.2.1).length < r.1 then ([], [], 4) else ((l.drop r.2.1).take r.1, (l.drop r.2.1).drop r.1, 0)

theorem tget_of {l : List Int} {m j f : Nat} (hr : vget 9223372036854775807 l 0 0 = (m, j, f)) : tget l = if f ≠ 0 then ([], [], f) else if (l.drop j).length < m then ([], [], 4) else ((l.drop j).take m, (l.drop j).drop m, 0) := by
  unfold tget
  rw [hr]

structure TextPost (w : World) (r : List Int × List Int × Nat) (en : Ending) (w' : World) : Prop where mk ::
  out : ∃ v1 v2, en = .returned (.tuple #[v1, v2, .int .i64 r.2.2]) ∧ Own w' w.heap.size 5 .u8 v1 r.1 ∧ Own w' w.heap.size 5 .u8 v2 r.2.1 ∧ Up w w'

def clip6 (ls : List (List Int)) : List (List Int) := (ls.take 6).map (·.take 200)
theorem clip6_upto (ls : List (List Int)) (k : Nat) (h6 : k < 6) (hk : k < ls.length) : clip6 (ls.take (k + 1)) = clip6 (ls.take k) ++ [(ls.getD k []).take 200] := by
  unfold clip6
  rw [List.take_take, List.take_take, show min 6 (k + 1) = k + 1 by omega, show min 6 k = k by omega, take_succ_getD ls k [] hk]
  simp
theorem clip6_all (ls : List (List Int)) (k : Nat) (h : k = min ls.length 6) : clip6 (ls.take k) = clip6 ls := by
  unfold clip6
  rw [List.take_take]
  congr 1
  rcases Nat.le_total ls.length 6 with h1 | h1
  · rw [List.take_of_length_le (by omega), List.take_of_length_le (by omega)]
  · congr 1; omega
theorem clip6_len (ls : List (List Int)) : (clip6 ls).length ≤ 6 := by
  unfold clip6
  simp only [List.length_map]
  exact List.length_take_le _ _
theorem texts_len (ls : List (List Int)) (h : ∀ b ∈ ls, b.length ≤ 200) : (texts ls).length ≤ 210 * ls.length := by
  induction ls with
  | nil => simp [texts]
  | cons b t ih =>
    have h1 := h b (by simp)
    have h2 := vput_len10 b.length (by omega)
    have h3 := ih fun x hx => h x (by simp [hx])
    have e : texts (b :: t) = vput b.length ++ b ++ texts t := by simp [texts]
    rw [e, List.length_append, List.length_append, List.length_cons]
    omega
theorem clip6_texts (ls : List (List Int)) : (texts (clip6 ls)).length ≤ 1260 := by
  have h := texts_len (clip6 ls) (by
    unfold clip6
    intro b hb
    obtain ⟨x, _, rfl⟩ := List.mem_map.1 hb
    exact List.length_take_le _ _)
  have := clip6_len ls
  omega
theorem tget_texts (s : List Int) (t : List (List Int)) (h : s.length ≤ 9223372036854775807) : tget (texts (s :: t)) = (s, texts t, 0) := by
  have e : texts (s :: t) = vput s.length ++ (s ++ texts t) := by simp [texts]
  rw [e, tget_of (vget_vput 9223372036854775807 _ (by omega) s.length h)]
  simp
theorem vget_at (g : Nat) (l : List Int) (i n : Nat) : (vget g l i n).2.1 ≤ i + l.length := by
  induction l generalizing i n with
  | nil => simp [vget]
  | cons c t ih =>
    rw [vget]
    split
    · simp
    · split
      · simp only [List.length_cons]; omega
      · have := ih (i + 1) (n + c.toNat % 128 * 2 ^ (7 * i))
        simp only [List.length_cons]; omega

structure TextRel (w : World) (ls : List (List Int)) (x all : Value) (k : Nat) (wr : World) : Prop where mk ::
  out : ∃ vs, OwnV wr w.heap.size 76 x vs ∧ Vals (fun b => b < w.heap.size) w .u8 vs (clip6 (ls.take k)) ∧ Own wr w.heap.size 5 .u8 all (texts (clip6 (ls.take k))) ∧ Up w wr

theorem infoBytes6 : (Try.prog.info? 76).map (fun i => (i.zero, i.size, i.bytes)) = some (some (.slice none 0 0), 1, 24) := by kernel_rfl

end Go.Proofs.Ytneliajeokajbaa
