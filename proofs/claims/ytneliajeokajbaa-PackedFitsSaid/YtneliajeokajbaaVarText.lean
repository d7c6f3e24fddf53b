/- The walks of varint's Text and GetText. -/
import Derived.Test.YtneliajeokajbaaVarGet
import Derived.Test.YtneliajeokajbaaVarPut
namespace Go.Proofs.Ytneliajeokajbaa
open Go.RowKit
set_option maxRecDepth 100000

def texts (ls : List (List Int)) : List Int := (ls.map (fun b => vput b.length ++ b)).flatten
theorem texts_snoc (ls : List (List Int)) (b : List Int) : texts (ls ++ [b]) = texts ls ++ (vput b.length ++ b) := by
  unfold texts
  rw [List.map_append, List.flatten_append]
  simp
theorem texts_take (ls : List (List Int)) (k : Nat) : (texts (ls.take k)).length ≤ (texts ls).length := by
  have h := List.take_append_drop k ls
  have e : texts ls = texts (ls.take k) ++ texts (ls.drop k) := by
    conv => lhs; rw [← h]
    unfold texts
    rw [List.map_append, List.flatten_append]
  rw [e, List.length_append]
  omega

def tget (l : List Int) : List Int × List Int × Nat :=
  let r := vget 9223372036854775807 l 0 0
  if r.2.2 ≠ 0 then ([], [], r.2.2) else if (l.drop r.2.1).length < r.1 then ([], [], 4) else ((l.drop r.2.1).take r.1, (l.drop r.2.1).drop r.1, 0)

theorem tget_of {l : List Int} {m j f : Nat} (hr : vget 9223372036854775807 l 0 0 = (m, j, f)) : tget l = if f ≠ 0 then ([], [], f) else if (l.drop j).length < m then ([], [], 4) else ((l.drop j).take m, (l.drop j).drop m, 0) := by
  unfold tget
  rw [hr]

structure TextPost (w : World) (r : List Int × List Int × Nat) (en : Ending) (w' : World) : Prop where mk ::
  out : ∃ v1 v2, en = .returned (.tuple #[v1, v2, .int .i64 r.2.2]) ∧ Own w' w.heap.size 5 .u8 v1 r.1 ∧ Own w' w.heap.size 5 .u8 v2 r.2.1 ∧ Up w w'

end Go.Proofs.Ytneliajeokajbaa
