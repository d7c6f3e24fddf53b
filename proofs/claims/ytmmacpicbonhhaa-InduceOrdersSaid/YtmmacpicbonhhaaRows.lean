/-
  No cell of these rows narrows 'for every input' (looked for: loops, veiled, ifaces, maps, wideKeys, modest, calm, conditions, laid).
  DERIVED. THE GIVEN ROWS OF THIS SEAT. 6 by the template 'for every input the law returns true; each argument reads behind the call as it read before'; 0 by the template 'total and deterministic' (their statements: YtmmacpicbonhhaaTotals.lean).
  GIVEN WITH THE SEED: the statements are not yours to turn. If you find one false, say at which input.
  Laid BY PROGRAM, IN A SANDBOX (cutbox-rows.mjs): the forced cells as the released guide's own fill.sh prints them over the translation 45d7292a0a7a8d7f… (all of the seat's roots in one cut). By AI agents, Wed Nov 11 2026. No macro, syntax, notation, axiom, sorry.
-/
import Derived.Test.YtmmacpicbonhhaaChecked
import GoSem.Claim
import GoSem.ClaimJoined
import GoSem.ClaimMapViews
import Derived.JoinedTies
import Derived.KernelRfl
namespace Go.Proofs.Ytmmacpicbonhhaa
/- THE CELL 'sum', in the pinned program and in every row, IS THE sha256 OF THE DUMP (.gsa) THAT YtmmacpicbonhhaaProg.lean LOADS. Nothing in Lean hashes anything: it is a label: what it is worth is what the hold of that sum in a sandbox is worth. -/
noncomputable def Try.pinned : Pinned := { name := "ytmmacpicbonhhaa", sum := "45d7292a0a7a8d7f81835af56f4d970396c3d2463623f3ec380e9d0471d52e14", checked := Try.checked }
namespace Rows
def none {H : Type} : Left H := { results := [], args := [] }

/-- 'incipitlaw16.InduceOrders': WHATEVER THE INPUT: true; the input reads as it did. -/
def induceOrdersSpec : ChangeSpec := { name := "induceOrders", fn := fun _ => fun
  | [d1, d2, d3] => { results := [.lit (.bool true)], args := [d1, d2, d3] }
  | _ => none }
def induceOrdersRow : OpenClaim := { program := "ytmmacpicbonhhaa", sum := "45d7292a0a7a8d7f81835af56f4d970396c3d2463623f3ec380e9d0471d52e14", func := "incipit/incipitlaw16.InduceOrders", spec := "induceOrders", unfollowed := true, recurses := true, apart := false }
def InduceOrdersSaid : Prop := induceOrdersRow.holds Try.pinned (OpenSpec.ofChange induceOrdersSpec)

/-- ITS FALSE NEIGHBOUR: 'it returns false'. Refute it at one input. -/
def induceOrdersWrong : ChangeSpec := { name := "induceOrders", fn := fun _ => fun
  | [d1, d2, d3] => { results := [.lit (.bool false)], args := [d1, d2, d3] }
  | _ => none }
def InduceOrdersWrongFalsely : Prop := induceOrdersRow.holds Try.pinned (OpenSpec.ofChange induceOrdersWrong)

/-- 'incipitlaw17.SaisOrders': WHATEVER THE INPUT: true; the input reads as it did. -/
def saisOrdersSpec : ChangeSpec := { name := "saisOrders", fn := fun _ => fun
  | [d1, d2] => { results := [.lit (.bool true)], args := [d1, d2] }
  | _ => none }
def saisOrdersRow : OpenClaim := { program := "ytmmacpicbonhhaa", sum := "45d7292a0a7a8d7f81835af56f4d970396c3d2463623f3ec380e9d0471d52e14", func := "incipit/incipitlaw17.SaisOrders", spec := "saisOrders", unfollowed := true, recurses := true, apart := false }
def SaisOrdersSaid : Prop := saisOrdersRow.holds Try.pinned (OpenSpec.ofChange saisOrdersSpec)

/-- ITS FALSE NEIGHBOUR: 'it returns false'. Refute it at one input. -/
def saisOrdersWrong : ChangeSpec := { name := "saisOrders", fn := fun _ => fun
  | [d1, d2] => { results := [.lit (.bool false)], args := [d1, d2] }
  | _ => none }
def SaisOrdersWrongFalsely : Prop := saisOrdersRow.holds Try.pinned (OpenSpec.ofChange saisOrdersWrong)

/-- 'incipitlaw17.SaisLevels': WHATEVER THE INPUT: true; the input reads as it did. -/
def saisLevelsSpec : ChangeSpec := { name := "saisLevels", fn := fun _ => fun
  | [d1, d2, d3] => { results := [.lit (.bool true)], args := [d1, d2, d3] }
  | _ => none }
def saisLevelsRow : OpenClaim := { program := "ytmmacpicbonhhaa", sum := "45d7292a0a7a8d7f81835af56f4d970396c3d2463623f3ec380e9d0471d52e14", func := "incipit/incipitlaw17.SaisLevels", spec := "saisLevels", unfollowed := true, recurses := true, apart := false }
def SaisLevelsSaid : Prop := saisLevelsRow.holds Try.pinned (OpenSpec.ofChange saisLevelsSpec)

/-- ITS FALSE NEIGHBOUR: 'it returns false'. Refute it at one input. -/
def saisLevelsWrong : ChangeSpec := { name := "saisLevels", fn := fun _ => fun
  | [d1, d2, d3] => { results := [.lit (.bool false)], args := [d1, d2, d3] }
  | _ => none }
def SaisLevelsWrongFalsely : Prop := saisLevelsRow.holds Try.pinned (OpenSpec.ofChange saisLevelsWrong)

/-- 'incipitlaw17.SaisChecks': WHATEVER THE INPUT: true; the input reads as it did. -/
def saisChecksSpec : ChangeSpec := { name := "saisChecks", fn := fun _ => fun
  | [d] => { results := [.lit (.bool true)], args := [d] }
  | _ => none }
def saisChecksRow : OpenClaim := { program := "ytmmacpicbonhhaa", sum := "45d7292a0a7a8d7f81835af56f4d970396c3d2463623f3ec380e9d0471d52e14", func := "incipit/incipitlaw17.SaisChecks", spec := "saisChecks", unfollowed := true, recurses := true, apart := false }
def SaisChecksSaid : Prop := saisChecksRow.holds Try.pinned (OpenSpec.ofChange saisChecksSpec)

/-- ITS FALSE NEIGHBOUR: 'it returns false'. Refute it at one input. -/
def saisChecksWrong : ChangeSpec := { name := "saisChecks", fn := fun _ => fun
  | [d] => { results := [.lit (.bool false)], args := [d] }
  | _ => none }
def SaisChecksWrongFalsely : Prop := saisChecksRow.holds Try.pinned (OpenSpec.ofChange saisChecksWrong)

/-- 'incipitlaw17.SaisLong': WHATEVER THE INPUT: true; the input reads as it did. -/
def saisLongSpec : ChangeSpec := { name := "saisLong", fn := fun _ => fun
  | [d1, d2, d3, d4] => { results := [.lit (.bool true)], args := [d1, d2, d3, d4] }
  | _ => none }
def saisLongRow : OpenClaim := { program := "ytmmacpicbonhhaa", sum := "45d7292a0a7a8d7f81835af56f4d970396c3d2463623f3ec380e9d0471d52e14", func := "incipit/incipitlaw17.SaisLong", spec := "saisLong", unfollowed := true, recurses := true, apart := false }
def SaisLongSaid : Prop := saisLongRow.holds Try.pinned (OpenSpec.ofChange saisLongSpec)

/-- ITS FALSE NEIGHBOUR: 'it returns false'. Refute it at one input. -/
def saisLongWrong : ChangeSpec := { name := "saisLong", fn := fun _ => fun
  | [d1, d2, d3, d4] => { results := [.lit (.bool false)], args := [d1, d2, d3, d4] }
  | _ => none }
def SaisLongWrongFalsely : Prop := saisLongRow.holds Try.pinned (OpenSpec.ofChange saisLongWrong)

/-- 'incipitlaw17.SaisBytes': WHATEVER THE INPUT: true; the input reads as it did. -/
def saisBytesSpec : ChangeSpec := { name := "saisBytes", fn := fun _ => fun
  | [d] => { results := [.lit (.bool true)], args := [d] }
  | _ => none }
def saisBytesRow : OpenClaim := { program := "ytmmacpicbonhhaa", sum := "45d7292a0a7a8d7f81835af56f4d970396c3d2463623f3ec380e9d0471d52e14", func := "incipit/incipitlaw17.SaisBytes", spec := "saisBytes", unfollowed := true, recurses := true, apart := false }
def SaisBytesSaid : Prop := saisBytesRow.holds Try.pinned (OpenSpec.ofChange saisBytesSpec)

/-- ITS FALSE NEIGHBOUR: 'it returns false'. Refute it at one input. -/
def saisBytesWrong : ChangeSpec := { name := "saisBytes", fn := fun _ => fun
  | [d] => { results := [.lit (.bool false)], args := [d] }
  | _ => none }
def SaisBytesWrongFalsely : Prop := saisBytesRow.holds Try.pinned (OpenSpec.ofChange saisBytesWrong)

/- THE SECOND FORM. 'bulk': how many values and letters a reading holds, each counted each time it is reached (what is shared counts as often as it is met; a slice's spare places count too). A statement '..UptoSaid' is the law's where the arguments, and the package variables that the reading takes, are together of bulk at most 1048576: NARROWER than '..Said'. Prove '..Said' where nothing that the law and all that it calls make is longer than what came in: it says more and counts as full. Else prove '..UptoSaid'. A law counts once. -/
mutual
def uptoBulk {H : Type} : DataW H → Nat
  | .lit (.string bytes) => bytes.length + 1
  | .lit _ => 1
  | .nil => 1
  | .ptr d => uptoBulk d + 1
  | .slice elems spare => uptoBulkAll elems + uptoBulkAll spare + 1
  | .agg parts => uptoBulkAll parts + 1
  | .iface _ d => uptoBulk d + 1
  | .map entries => uptoBulkEntries entries + 1
  | .held _ => 1
def uptoBulkAll {H : Type} : List (DataW H) → Nat
  | [] => 0
  | d :: r => uptoBulk d + uptoBulkAll r
def uptoBulkEntries {H : Type} : List (Lit × DataW H) → Nat
  | [] => 0
  | x :: r => uptoBulkEntry x + uptoBulkEntries r
def uptoBulkEntry {H : Type} : Lit × DataW H → Nat
  | (.string bytes, d) => bytes.length + uptoBulk d + 1
  | (_, d) => uptoBulk d + 1
 end
def uptoSmall : (H : Type) → List (DataW H) → Bool := fun _ ds => decide (uptoBulkAll ds ≤ 1048576)
def OpenSpec.upto (s : _root_.Go.ChangeSpec) : _root_.Go.OpenSpec := { _root_.Go.OpenSpec.ofChange s with cond := some uptoSmall }

/-- 'incipitlaw16.InduceOrders', WHERE WHAT IT READS IS OF BULK AT MOST 1048576: true; the input reads as it did. -/
def induceOrdersUptoRow : OpenClaim := { program := "ytmmacpicbonhhaa", sum := "45d7292a0a7a8d7f81835af56f4d970396c3d2463623f3ec380e9d0471d52e14", func := "incipit/incipitlaw16.InduceOrders", spec := "induceOrders", unfollowed := true, recurses := true, apart := false, narrowed := true }
def InduceOrdersUptoSaid : Prop := induceOrdersUptoRow.holds Try.pinned (OpenSpec.upto induceOrdersSpec)

/-- 'incipitlaw17.SaisOrders', WHERE WHAT IT READS IS OF BULK AT MOST 1048576: true; the input reads as it did. -/
def saisOrdersUptoRow : OpenClaim := { program := "ytmmacpicbonhhaa", sum := "45d7292a0a7a8d7f81835af56f4d970396c3d2463623f3ec380e9d0471d52e14", func := "incipit/incipitlaw17.SaisOrders", spec := "saisOrders", unfollowed := true, recurses := true, apart := false, narrowed := true }
def SaisOrdersUptoSaid : Prop := saisOrdersUptoRow.holds Try.pinned (OpenSpec.upto saisOrdersSpec)

/-- 'incipitlaw17.SaisLevels', WHERE WHAT IT READS IS OF BULK AT MOST 1048576: true; the input reads as it did. -/
def saisLevelsUptoRow : OpenClaim := { program := "ytmmacpicbonhhaa", sum := "45d7292a0a7a8d7f81835af56f4d970396c3d2463623f3ec380e9d0471d52e14", func := "incipit/incipitlaw17.SaisLevels", spec := "saisLevels", unfollowed := true, recurses := true, apart := false, narrowed := true }
def SaisLevelsUptoSaid : Prop := saisLevelsUptoRow.holds Try.pinned (OpenSpec.upto saisLevelsSpec)

/-- 'incipitlaw17.SaisChecks', WHERE WHAT IT READS IS OF BULK AT MOST 1048576: true; the input reads as it did. -/
def saisChecksUptoRow : OpenClaim := { program := "ytmmacpicbonhhaa", sum := "45d7292a0a7a8d7f81835af56f4d970396c3d2463623f3ec380e9d0471d52e14", func := "incipit/incipitlaw17.SaisChecks", spec := "saisChecks", unfollowed := true, recurses := true, apart := false, narrowed := true }
def SaisChecksUptoSaid : Prop := saisChecksUptoRow.holds Try.pinned (OpenSpec.upto saisChecksSpec)

/-- 'incipitlaw17.SaisLong', WHERE WHAT IT READS IS OF BULK AT MOST 1048576: true; the input reads as it did. -/
def saisLongUptoRow : OpenClaim := { program := "ytmmacpicbonhhaa", sum := "45d7292a0a7a8d7f81835af56f4d970396c3d2463623f3ec380e9d0471d52e14", func := "incipit/incipitlaw17.SaisLong", spec := "saisLong", unfollowed := true, recurses := true, apart := false, narrowed := true }
def SaisLongUptoSaid : Prop := saisLongUptoRow.holds Try.pinned (OpenSpec.upto saisLongSpec)

/-- 'incipitlaw17.SaisBytes', WHERE WHAT IT READS IS OF BULK AT MOST 1048576: true; the input reads as it did. -/
def saisBytesUptoRow : OpenClaim := { program := "ytmmacpicbonhhaa", sum := "45d7292a0a7a8d7f81835af56f4d970396c3d2463623f3ec380e9d0471d52e14", func := "incipit/incipitlaw17.SaisBytes", spec := "saisBytes", unfollowed := true, recurses := true, apart := false, narrowed := true }
def SaisBytesUptoSaid : Prop := saisBytesUptoRow.holds Try.pinned (OpenSpec.upto saisBytesSpec)

end Rows
end Go.Proofs.Ytmmacpicbonhhaa
