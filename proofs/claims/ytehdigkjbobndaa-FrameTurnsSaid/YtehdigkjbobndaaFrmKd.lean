/- The document's frame as a row's argument. -/
import Derived.Test.YtehdigkjbobndaaPFrmAx2
namespace Go.Proofs.Ytehdigkjbobndaa.PFrmA
open Go.RowKit Go.Proofs.YtehdigkjbobndaaW.PrintWords

structure S66 where
  f0 : Int
  f1 : Int
  f2 : Int
  f3 : (List Int)
def k66 : Kd S66 := Kd.iso (Kd.pair (Kd.int .i64) (Kd.pair (Kd.int .i64) (Kd.pair (Kd.int .i64) (Kd.slice 5 (Kd.int .u8))))) (fun x : S66 => (x.f0, x.f1, x.f2, x.f3))
theorem k66_openr {w : World} {x : S66} {cs : List Value} (h : k66.K w x cs) : ∃ A3 c3, cs = [.int .i64 x.f0, .int .i64 x.f1, .int .i64 x.f2, .slice A3 x.f3.length c3] ∧ x.f3.length ≤ c3 ∧ (Kd.int .u8).C w A3 x.f3.length x.f3 := by
  obtain ⟨_, _, rfl, rfl, ⟨_, _, rfl, rfl, ⟨_, _, rfl, rfl, ⟨A3, c3, rfl, l3, g3⟩⟩⟩⟩ := h
  exact ⟨A3, c3, rfl, l3, g3⟩
end Go.Proofs.Ytehdigkjbobndaa.PFrmA
