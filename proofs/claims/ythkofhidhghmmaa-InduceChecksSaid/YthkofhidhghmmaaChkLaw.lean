/- The law InduceChecks returns true of any two rows of numbers. -/
import Derived.Test.YthkofhidhghmmaaChkPure
namespace Go.Proofs.Ythkofhidhghmmaa
open Go.RowKit
theorem lawInduceChecks_calls (A0 : Option Addr) (c0 : Nat) (l0 : List Int) (A1 : Option Addr) (c1 : Nat) (l1 : List Int) (w : World) (h0 : Rd w .i64 A0 c0 l0) (h1 : Rd w .i64 A1 c1 l1) :
    Calls Try.prog 12 #[.slice A0 l0.length c0, .slice A1 l1.length c1] w fun en w' => en = .returned (.bool true) ∧ Up w w' := IndCPure.lawInduceChecks_calls A0 c0 l0 A1 c1 l1 w h0 h1
end Go.Proofs.Ythkofhidhghmmaa
