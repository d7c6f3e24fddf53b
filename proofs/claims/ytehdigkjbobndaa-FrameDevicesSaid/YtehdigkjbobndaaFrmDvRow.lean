/- FrameDevices: the document's frame as a row's argument, the law over it. -/
import Derived.Test.YtehdigkjbobndaaOpen
import Derived.Test.YtehdigkjbobndaaFrmDvs
namespace Go.Proofs.Ytehdigkjbobndaa
open Go.RowKit Go.Proofs.YtehdigkjbobndaaW.PrintWords

structure S66 where
  f0 : Int
  f1 : Int
  f2 : Int
  f3 : List Int
def k66 : Kd S66 := Kd.iso (Kd.pair (Kd.int .i64) (Kd.pair (Kd.int .i64) (Kd.pair (Kd.int .i64) (Kd.slice 5 (Kd.int .u8))))) (fun x : S66 => (x.f0, x.f1, x.f2, x.f3))
theorem k66_openr {w : World} {x : S66} {cs : List Value} (h : k66.K w x cs) : ∃ A3 c3, cs = [.int .i64 x.f0, .int .i64 x.f1, .int .i64 x.f2, .slice A3 x.f3.length c3] ∧ x.f3.length ≤ c3 ∧ (Kd.int .u8).C w A3 x.f3.length x.f3 := by
  obtain ⟨_, _, rfl, rfl, ⟨_, _, rfl, rfl, ⟨_, _, rfl, rfl, ⟨A3, c3, rfl, l3, g3⟩⟩⟩⟩ := h
  exact ⟨A3, c3, rfl, l3, g3⟩
theorem framesRow (pages k e p : Int) (A : Option Addr) (c : Nat) (b : List Int) (page : Int) (A2 : Option Addr) (c2 : Nat) (ks : List Int) (w : World) (hC : Kd.C (Kd.int .u8) w A b.length b) (hc : b.length ≤ c) (hC2 : Kd.C (Kd.int .i64) w A2 ks.length ks) (hc2 : ks.length ≤ c2)
    (_ : InK .i64 pages) (hw : InK .i64 k ∧ InK .i64 e ∧ InK .i64 p ∧ Elems (InK .u8) b) (_ : InK .i64 page) (hk : ∀ x ∈ ks, InK .i64 x) :
    Calls Try.prog 11 #[.int .i64 pages, .agg #[.int .i64 k, .int .i64 e, .int .i64 p, .slice A b.length c], .int .i64 page, .slice A2 ks.length c2] w fun en w' => en = .returned (.bool true) ∧ Up w w' :=
  lawFrameDevices_calls pages k e p A c b page A2 c2 ks w (rd_of_kdc hC hc hw.2.2.2.all) (rd_of_kdc hC2 hc2 hk)
end Go.Proofs.Ytehdigkjbobndaa
