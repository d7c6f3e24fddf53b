/-
  No cell of these rows narrows 'for every input' (looked for: loops, veiled, ifaces, maps, wideKeys, modest, calm, conditions, laid).
  DERIVED. THE GIVEN ROWS OF THIS SEAT. 10 by the template 'for every input the law returns true; each argument reads behind the call as it read before'; 0 by the template 'total and deterministic' (their statements: YthkofhidhghmmaaTotals.lean).
  GIVEN WITH THE SEED: the statements are not yours to turn. If you find one false, say at which input.
  Laid BY PROGRAM, IN A SANDBOX (cutbox-rows.mjs): the forced cells as the released guide's own fill.sh prints them over the translation debc9271f80a874c… (all of the seat's roots in one cut). By AI agents, Wed Nov 11 2026. No macro, syntax, notation, axiom, sorry.
-/
import Derived.Test.YthkofhidhghmmaaChecked
import GoSem.Claim
import GoSem.ClaimJoined
import GoSem.ClaimMapViews
import Derived.JoinedTies
import Derived.KernelRfl
namespace Go.Proofs.Ythkofhidhghmmaa
/- THE CELL 'sum', in the pinned program and in every row, IS THE sha256 OF THE DUMP (.gsa) THAT YthkofhidhghmmaaProg.lean LOADS. Nothing in Lean hashes anything: it is a label: what it is worth is what the hold of that sum in a sandbox is worth. -/
noncomputable def Try.pinned : Pinned := { name := "ythkofhidhghmmaa", sum := "debc9271f80a874c86dbcb72c82cf4cc05f9392a7080e72534f866d8280d87cf", checked := Try.checked }
namespace Rows
def none {H : Type} : Left H := { results := [], args := [] }

/-- 'incipitlaw15.SuffixTurns': WHATEVER THE INPUT: true; the input reads as it did. -/
def suffixTurnsSpec : ChangeSpec := { name := "suffixTurns", fn := fun _ => fun
  | [d] => { results := [.lit (.bool true)], args := [d] }
  | _ => none }
def suffixTurnsRow : OpenClaim := { program := "ythkofhidhghmmaa", sum := "debc9271f80a874c86dbcb72c82cf4cc05f9392a7080e72534f866d8280d87cf", func := "incipit/incipitlaw15.SuffixTurns", spec := "suffixTurns", unfollowed := true, recurses := true, apart := false }
def SuffixTurnsSaid : Prop := suffixTurnsRow.holds Try.pinned (OpenSpec.ofChange suffixTurnsSpec)

/-- ITS FALSE NEIGHBOUR: 'it returns false'. Refute it at one input. -/
def suffixTurnsWrong : ChangeSpec := { name := "suffixTurns", fn := fun _ => fun
  | [d] => { results := [.lit (.bool false)], args := [d] }
  | _ => none }
def SuffixTurnsWrongFalsely : Prop := suffixTurnsRow.holds Try.pinned (OpenSpec.ofChange suffixTurnsWrong)

/-- 'incipitlaw15.SuffixRight': WHATEVER THE INPUT: true; the input reads as it did. -/
def suffixRightSpec : ChangeSpec := { name := "suffixRight", fn := fun _ => fun
  | [d1, d2] => { results := [.lit (.bool true)], args := [d1, d2] }
  | _ => none }
def suffixRightRow : OpenClaim := { program := "ythkofhidhghmmaa", sum := "debc9271f80a874c86dbcb72c82cf4cc05f9392a7080e72534f866d8280d87cf", func := "incipit/incipitlaw15.SuffixRight", spec := "suffixRight", unfollowed := true, recurses := true, apart := false }
def SuffixRightSaid : Prop := suffixRightRow.holds Try.pinned (OpenSpec.ofChange suffixRightSpec)

/-- ITS FALSE NEIGHBOUR: 'it returns false'. Refute it at one input. -/
def suffixRightWrong : ChangeSpec := { name := "suffixRight", fn := fun _ => fun
  | [d1, d2] => { results := [.lit (.bool false)], args := [d1, d2] }
  | _ => none }
def SuffixRightWrongFalsely : Prop := suffixRightRow.holds Try.pinned (OpenSpec.ofChange suffixRightWrong)

/-- 'incipitlaw15.SuffixKinds': WHATEVER THE INPUT: true; the input reads as it did. -/
def suffixKindsSpec : ChangeSpec := { name := "suffixKinds", fn := fun _ => fun
  | [d1, d2, d3] => { results := [.lit (.bool true)], args := [d1, d2, d3] }
  | _ => none }
def suffixKindsRow : OpenClaim := { program := "ythkofhidhghmmaa", sum := "debc9271f80a874c86dbcb72c82cf4cc05f9392a7080e72534f866d8280d87cf", func := "incipit/incipitlaw15.SuffixKinds", spec := "suffixKinds", unfollowed := true, recurses := true, apart := false }
def SuffixKindsSaid : Prop := suffixKindsRow.holds Try.pinned (OpenSpec.ofChange suffixKindsSpec)

/-- ITS FALSE NEIGHBOUR: 'it returns false'. Refute it at one input. -/
def suffixKindsWrong : ChangeSpec := { name := "suffixKinds", fn := fun _ => fun
  | [d1, d2, d3] => { results := [.lit (.bool false)], args := [d1, d2, d3] }
  | _ => none }
def SuffixKindsWrongFalsely : Prop := suffixKindsRow.holds Try.pinned (OpenSpec.ofChange suffixKindsWrong)

/-- 'incipitlaw15.SuffixSorts': WHATEVER THE INPUT: true; the input reads as it did. -/
def suffixSortsSpec : ChangeSpec := { name := "suffixSorts", fn := fun _ => fun
  | [d1, d2, d3, d4] => { results := [.lit (.bool true)], args := [d1, d2, d3, d4] }
  | _ => none }
def suffixSortsRow : OpenClaim := { program := "ythkofhidhghmmaa", sum := "debc9271f80a874c86dbcb72c82cf4cc05f9392a7080e72534f866d8280d87cf", func := "incipit/incipitlaw15.SuffixSorts", spec := "suffixSorts", unfollowed := true, recurses := true, apart := false }
def SuffixSortsSaid : Prop := suffixSortsRow.holds Try.pinned (OpenSpec.ofChange suffixSortsSpec)

/-- ITS FALSE NEIGHBOUR: 'it returns false'. Refute it at one input. -/
def suffixSortsWrong : ChangeSpec := { name := "suffixSorts", fn := fun _ => fun
  | [d1, d2, d3, d4] => { results := [.lit (.bool false)], args := [d1, d2, d3, d4] }
  | _ => none }
def SuffixSortsWrongFalsely : Prop := suffixSortsRow.holds Try.pinned (OpenSpec.ofChange suffixSortsWrong)

/-- 'incipitlaw15.SuffixChecks': WHATEVER THE INPUT: true; the input reads as it did. -/
def suffixChecksSpec : ChangeSpec := { name := "suffixChecks", fn := fun _ => fun
  | [d1, d2, d3] => { results := [.lit (.bool true)], args := [d1, d2, d3] }
  | _ => none }
def suffixChecksRow : OpenClaim := { program := "ythkofhidhghmmaa", sum := "debc9271f80a874c86dbcb72c82cf4cc05f9392a7080e72534f866d8280d87cf", func := "incipit/incipitlaw15.SuffixChecks", spec := "suffixChecks", unfollowed := true, recurses := true, apart := false }
def SuffixChecksSaid : Prop := suffixChecksRow.holds Try.pinned (OpenSpec.ofChange suffixChecksSpec)

/-- ITS FALSE NEIGHBOUR: 'it returns false'. Refute it at one input. -/
def suffixChecksWrong : ChangeSpec := { name := "suffixChecks", fn := fun _ => fun
  | [d1, d2, d3] => { results := [.lit (.bool false)], args := [d1, d2, d3] }
  | _ => none }
def SuffixChecksWrongFalsely : Prop := suffixChecksRow.holds Try.pinned (OpenSpec.ofChange suffixChecksWrong)

/-- 'incipitlaw16.InduceBuckets': WHATEVER THE INPUT: true; the input reads as it did. -/
def induceBucketsSpec : ChangeSpec := { name := "induceBuckets", fn := fun _ => fun
  | [d1, d2] => { results := [.lit (.bool true)], args := [d1, d2] }
  | _ => none }
def induceBucketsRow : OpenClaim := { program := "ythkofhidhghmmaa", sum := "debc9271f80a874c86dbcb72c82cf4cc05f9392a7080e72534f866d8280d87cf", func := "incipit/incipitlaw16.InduceBuckets", spec := "induceBuckets", unfollowed := true, recurses := true, apart := false }
def InduceBucketsSaid : Prop := induceBucketsRow.holds Try.pinned (OpenSpec.ofChange induceBucketsSpec)

/-- ITS FALSE NEIGHBOUR: 'it returns false'. Refute it at one input. -/
def induceBucketsWrong : ChangeSpec := { name := "induceBuckets", fn := fun _ => fun
  | [d1, d2] => { results := [.lit (.bool false)], args := [d1, d2] }
  | _ => none }
def InduceBucketsWrongFalsely : Prop := induceBucketsRow.holds Try.pinned (OpenSpec.ofChange induceBucketsWrong)

/-- 'incipitlaw16.InduceSorts': WHATEVER THE INPUT: true; the input reads as it did. -/
def induceSortsSpec : ChangeSpec := { name := "induceSorts", fn := fun _ => fun
  | [d1, d2] => { results := [.lit (.bool true)], args := [d1, d2] }
  | _ => none }
def induceSortsRow : OpenClaim := { program := "ythkofhidhghmmaa", sum := "debc9271f80a874c86dbcb72c82cf4cc05f9392a7080e72534f866d8280d87cf", func := "incipit/incipitlaw16.InduceSorts", spec := "induceSorts", unfollowed := true, recurses := true, apart := false }
def InduceSortsSaid : Prop := induceSortsRow.holds Try.pinned (OpenSpec.ofChange induceSortsSpec)

/-- ITS FALSE NEIGHBOUR: 'it returns false'. Refute it at one input. -/
def induceSortsWrong : ChangeSpec := { name := "induceSorts", fn := fun _ => fun
  | [d1, d2] => { results := [.lit (.bool false)], args := [d1, d2] }
  | _ => none }
def InduceSortsWrongFalsely : Prop := induceSortsRow.holds Try.pinned (OpenSpec.ofChange induceSortsWrong)

/-- 'incipitlaw16.InduceOrders': WHATEVER THE INPUT: true; the input reads as it did. -/
def induceOrdersSpec : ChangeSpec := { name := "induceOrders", fn := fun _ => fun
  | [d1, d2, d3] => { results := [.lit (.bool true)], args := [d1, d2, d3] }
  | _ => none }
def induceOrdersRow : OpenClaim := { program := "ythkofhidhghmmaa", sum := "debc9271f80a874c86dbcb72c82cf4cc05f9392a7080e72534f866d8280d87cf", func := "incipit/incipitlaw16.InduceOrders", spec := "induceOrders", unfollowed := true, recurses := true, apart := false }
def InduceOrdersSaid : Prop := induceOrdersRow.holds Try.pinned (OpenSpec.ofChange induceOrdersSpec)

/-- ITS FALSE NEIGHBOUR: 'it returns false'. Refute it at one input. -/
def induceOrdersWrong : ChangeSpec := { name := "induceOrders", fn := fun _ => fun
  | [d1, d2, d3] => { results := [.lit (.bool false)], args := [d1, d2, d3] }
  | _ => none }
def InduceOrdersWrongFalsely : Prop := induceOrdersRow.holds Try.pinned (OpenSpec.ofChange induceOrdersWrong)

/-- 'incipitlaw16.InduceReduces': WHATEVER THE INPUT: true; the input reads as it did. -/
def induceReducesSpec : ChangeSpec := { name := "induceReduces", fn := fun _ => fun
  | [d1, d2] => { results := [.lit (.bool true)], args := [d1, d2] }
  | _ => none }
def induceReducesRow : OpenClaim := { program := "ythkofhidhghmmaa", sum := "debc9271f80a874c86dbcb72c82cf4cc05f9392a7080e72534f866d8280d87cf", func := "incipit/incipitlaw16.InduceReduces", spec := "induceReduces", unfollowed := true, recurses := true, apart := false }
def InduceReducesSaid : Prop := induceReducesRow.holds Try.pinned (OpenSpec.ofChange induceReducesSpec)

/-- ITS FALSE NEIGHBOUR: 'it returns false'. Refute it at one input. -/
def induceReducesWrong : ChangeSpec := { name := "induceReduces", fn := fun _ => fun
  | [d1, d2] => { results := [.lit (.bool false)], args := [d1, d2] }
  | _ => none }
def InduceReducesWrongFalsely : Prop := induceReducesRow.holds Try.pinned (OpenSpec.ofChange induceReducesWrong)

/-- 'incipitlaw16.InduceChecks': WHATEVER THE INPUT: true; the input reads as it did. -/
def induceChecksSpec : ChangeSpec := { name := "induceChecks", fn := fun _ => fun
  | [d1, d2] => { results := [.lit (.bool true)], args := [d1, d2] }
  | _ => none }
def induceChecksRow : OpenClaim := { program := "ythkofhidhghmmaa", sum := "debc9271f80a874c86dbcb72c82cf4cc05f9392a7080e72534f866d8280d87cf", func := "incipit/incipitlaw16.InduceChecks", spec := "induceChecks", unfollowed := true, recurses := true, apart := false }
def InduceChecksSaid : Prop := induceChecksRow.holds Try.pinned (OpenSpec.ofChange induceChecksSpec)

/-- ITS FALSE NEIGHBOUR: 'it returns false'. Refute it at one input. -/
def induceChecksWrong : ChangeSpec := { name := "induceChecks", fn := fun _ => fun
  | [d1, d2] => { results := [.lit (.bool false)], args := [d1, d2] }
  | _ => none }
def InduceChecksWrongFalsely : Prop := induceChecksRow.holds Try.pinned (OpenSpec.ofChange induceChecksWrong)

/- THE SECOND FORM. 'bulk': how many values and letters a reading holds, each counted each time it is reached (what is shared counts as often as it is met; a slice's spare places count too). A statement '..UptoSaid' is the law's where the arguments, and the package variables that the reading takes, are together of bulk at most 1048576: NARROWER than '..Said'. Prove '..Said' where nothing that the law and all that it calls make is longer than what came in: it says more and counts as full. Else prove '..UptoSaid'. A law counts once. -/
mutual
def uptoBulk {H : Type} : DataW H → Nat
  | .lit (.string bytes) => bytes.length + 1
  | .lit _ => 1
  | .nil => 1
  | .ptr d => uptoBulk d + 1
  | .slice elems spare => uptoBulkAll elems + uptoBulkAll spare + 1
  | .agg parts => uptoBulkAll parts + 1
  | .iface _ d => uptoBulk d + 1
  | .map entries => uptoBulkEntries entries + 1
  | .held _ => 1
def uptoBulkAll {H : Type} : List (DataW H) → Nat
  | [] => 0
  | d :: r => uptoBulk d + uptoBulkAll r
def uptoBulkEntries {H : Type} : List (Lit × DataW H) → Nat
  | [] => 0
  | x :: r => uptoBulkEntry x + uptoBulkEntries r
def uptoBulkEntry {H : Type} : Lit × DataW H → Nat
  | (.string bytes, d) => bytes.length + uptoBulk d + 1
  | (_, d) => uptoBulk d + 1
 end
def uptoSmall : (H : Type) → List (DataW H) → Bool := fun _ ds => decide (uptoBulkAll ds ≤ 1048576)
def OpenSpec.upto (s : _root_.Go.ChangeSpec) : _root_.Go.OpenSpec := { _root_.Go.OpenSpec.ofChange s with cond := some uptoSmall }

/-- 'incipitlaw15.SuffixTurns', WHERE WHAT IT READS IS OF BULK AT MOST 1048576: true; the input reads as it did. -/
def suffixTurnsUptoRow : OpenClaim := { program := "ythkofhidhghmmaa", sum := "debc9271f80a874c86dbcb72c82cf4cc05f9392a7080e72534f866d8280d87cf", func := "incipit/incipitlaw15.SuffixTurns", spec := "suffixTurns", unfollowed := true, recurses := true, apart := false, narrowed := true }
def SuffixTurnsUptoSaid : Prop := suffixTurnsUptoRow.holds Try.pinned (OpenSpec.upto suffixTurnsSpec)

/-- 'incipitlaw15.SuffixRight', WHERE WHAT IT READS IS OF BULK AT MOST 1048576: true; the input reads as it did. -/
def suffixRightUptoRow : OpenClaim := { program := "ythkofhidhghmmaa", sum := "debc9271f80a874c86dbcb72c82cf4cc05f9392a7080e72534f866d8280d87cf", func := "incipit/incipitlaw15.SuffixRight", spec := "suffixRight", unfollowed := true, recurses := true, apart := false, narrowed := true }
def SuffixRightUptoSaid : Prop := suffixRightUptoRow.holds Try.pinned (OpenSpec.upto suffixRightSpec)

/-- 'incipitlaw15.SuffixKinds', WHERE WHAT IT READS IS OF BULK AT MOST 1048576: true; the input reads as it did. -/
def suffixKindsUptoRow : OpenClaim := { program := "ythkofhidhghmmaa", sum := "debc9271f80a874c86dbcb72c82cf4cc05f9392a7080e72534f866d8280d87cf", func := "incipit/incipitlaw15.SuffixKinds", spec := "suffixKinds", unfollowed := true, recurses := true, apart := false, narrowed := true }
def SuffixKindsUptoSaid : Prop := suffixKindsUptoRow.holds Try.pinned (OpenSpec.upto suffixKindsSpec)

/-- 'incipitlaw15.SuffixSorts', WHERE WHAT IT READS IS OF BULK AT MOST 1048576: true; the input reads as it did. -/
def suffixSortsUptoRow : OpenClaim := { program := "ythkofhidhghmmaa", sum := "debc9271f80a874c86dbcb72c82cf4cc05f9392a7080e72534f866d8280d87cf", func := "incipit/incipitlaw15.SuffixSorts", spec := "suffixSorts", unfollowed := true, recurses := true, apart := false, narrowed := true }
def SuffixSortsUptoSaid : Prop := suffixSortsUptoRow.holds Try.pinned (OpenSpec.upto suffixSortsSpec)

/-- 'incipitlaw15.SuffixChecks', WHERE WHAT IT READS IS OF BULK AT MOST 1048576: true; the input reads as it did. -/
def suffixChecksUptoRow : OpenClaim := { program := "ythkofhidhghmmaa", sum := "debc9271f80a874c86dbcb72c82cf4cc05f9392a7080e72534f866d8280d87cf", func := "incipit/incipitlaw15.SuffixChecks", spec := "suffixChecks", unfollowed := true, recurses := true, apart := false, narrowed := true }
def SuffixChecksUptoSaid : Prop := suffixChecksUptoRow.holds Try.pinned (OpenSpec.upto suffixChecksSpec)

/-- 'incipitlaw16.InduceBuckets', WHERE WHAT IT READS IS OF BULK AT MOST 1048576: true; the input reads as it did. -/
def induceBucketsUptoRow : OpenClaim := { program := "ythkofhidhghmmaa", sum := "debc9271f80a874c86dbcb72c82cf4cc05f9392a7080e72534f866d8280d87cf", func := "incipit/incipitlaw16.InduceBuckets", spec := "induceBuckets", unfollowed := true, recurses := true, apart := false, narrowed := true }
def InduceBucketsUptoSaid : Prop := induceBucketsUptoRow.holds Try.pinned (OpenSpec.upto induceBucketsSpec)

/-- 'incipitlaw16.InduceSorts', WHERE WHAT IT READS IS OF BULK AT MOST 1048576: true; the input reads as it did. -/
def induceSortsUptoRow : OpenClaim := { program := "ythkofhidhghmmaa", sum := "debc9271f80a874c86dbcb72c82cf4cc05f9392a7080e72534f866d8280d87cf", func := "incipit/incipitlaw16.InduceSorts", spec := "induceSorts", unfollowed := true, recurses := true, apart := false, narrowed := true }
def InduceSortsUptoSaid : Prop := induceSortsUptoRow.holds Try.pinned (OpenSpec.upto induceSortsSpec)

/-- 'incipitlaw16.InduceOrders', WHERE WHAT IT READS IS OF BULK AT MOST 1048576: true; the input reads as it did. -/
def induceOrdersUptoRow : OpenClaim := { program := "ythkofhidhghmmaa", sum := "debc9271f80a874c86dbcb72c82cf4cc05f9392a7080e72534f866d8280d87cf", func := "incipit/incipitlaw16.InduceOrders", spec := "induceOrders", unfollowed := true, recurses := true, apart := false, narrowed := true }
def InduceOrdersUptoSaid : Prop := induceOrdersUptoRow.holds Try.pinned (OpenSpec.upto induceOrdersSpec)

/-- 'incipitlaw16.InduceReduces', WHERE WHAT IT READS IS OF BULK AT MOST 1048576: true; the input reads as it did. -/
def induceReducesUptoRow : OpenClaim := { program := "ythkofhidhghmmaa", sum := "debc9271f80a874c86dbcb72c82cf4cc05f9392a7080e72534f866d8280d87cf", func := "incipit/incipitlaw16.InduceReduces", spec := "induceReduces", unfollowed := true, recurses := true, apart := false, narrowed := true }
def InduceReducesUptoSaid : Prop := induceReducesUptoRow.holds Try.pinned (OpenSpec.upto induceReducesSpec)

/-- 'incipitlaw16.InduceChecks', WHERE WHAT IT READS IS OF BULK AT MOST 1048576: true; the input reads as it did. -/
def induceChecksUptoRow : OpenClaim := { program := "ythkofhidhghmmaa", sum := "debc9271f80a874c86dbcb72c82cf4cc05f9392a7080e72534f866d8280d87cf", func := "incipit/incipitlaw16.InduceChecks", spec := "induceChecks", unfollowed := true, recurses := true, apart := false, narrowed := true }
def InduceChecksUptoSaid : Prop := induceChecksUptoRow.holds Try.pinned (OpenSpec.upto induceChecksSpec)

end Rows
end Go.Proofs.Ythkofhidhghmmaa
