/- FrameTears: the document's frames as a row's arguments, the law over them. -/
import Derived.Test.YtehdigkjbobndaaOpen
import Derived.Test.YtehdigkjbobndaaFrmTw
namespace Go.Proofs.Ytehdigkjbobndaa
open Go.RowKit Go.Proofs.YtehdigkjbobndaaW.PrintWords

structure S66 where
  f0 : Int
  f1 : Int
  f2 : Int
  f3 : List Int
def k66 : Kd S66 := Kd.iso (Kd.pair (Kd.int .i64) (Kd.pair (Kd.int .i64) (Kd.pair (Kd.int .i64) (Kd.slice 5 (Kd.int .u8))))) (fun x : S66 => (x.f0, x.f1, x.f2, x.f3))
theorem k66_openr {w : World} {x : S66} {cs : List Value} (h : k66.K w x cs) : ∃ A3 c3, cs = [.int .i64 x.f0, .int .i64 x.f1, .int .i64 x.f2, .slice A3 x.f3.length c3] ∧ x.f3.length ≤ c3 ∧ (Kd.int .u8).C w A3 x.f3.length x.f3 := by
  obtain ⟨_, _, rfl, rfl, ⟨_, _, rfl, rfl, ⟨_, _, rfl, rfl, ⟨A3, c3, rfl, l3, g3⟩⟩⟩⟩ := h
  exact ⟨A3, c3, rfl, l3, g3⟩
theorem tearsRow (k e p : Int) (A : Option Addr) (c : Nat) (b : List Int) (k2 e2 p2 : Int) (A2 : Option Addr) (c2 : Nat) (b2 : List Int) (part : Int) (w : World) (hC : Kd.C (Kd.int .u8) w A b.length b) (hc : b.length ≤ c) (hC2 : Kd.C (Kd.int .u8) w A2 b2.length b2) (hc2 : b2.length ≤ c2)
    (hw : InK .i64 k ∧ InK .i64 e ∧ InK .i64 p ∧ Elems (InK .u8) b) (hw2 : InK .i64 k2 ∧ InK .i64 e2 ∧ InK .i64 p2 ∧ Elems (InK .u8) b2) (_ : InK .i64 part) :
    Calls Try.prog 8 #[.agg #[.int .i64 k, .int .i64 e, .int .i64 p, .slice A b.length c], .agg #[.int .i64 k2, .int .i64 e2, .int .i64 p2, .slice A2 b2.length c2], .int .i64 part] w fun en w' => en = .returned (.bool true) ∧ Up w w' :=
  lawFrameTears_calls k e p A c b k2 e2 p2 A2 c2 b2 part w (rd_of_kdc hC hc hw.2.2.2.all) (rd_of_kdc hC2 hc2 hw2.2.2.2.all)
end Go.Proofs.Ytehdigkjbobndaa
