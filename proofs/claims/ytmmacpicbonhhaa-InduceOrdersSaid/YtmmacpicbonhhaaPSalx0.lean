-- Written by a program of this session (wip/tools/pp.sh, on the pattern of the kit's print): not typed by hand.
import Derived.Test.YtmmacpicbonhhaaProg
import Derived.WalkMore
import Derived.Below
import Derived.Deep.Draws
import Derived.Deep.AppendLies
import Derived.Maps.AppendAt
import Derived.OwnWalk
import Derived.Laws.BytesArg
import Derived.Laws.MakeOwn
import Derived.Laws.OwnMore
import Derived.Deep.OwnRows
import Derived.Tactics
import Derived.Lib.ConvBytes
import Derived.Laws.Slices
import Derived.WalkKit
import Derived.KernelRfl
import Derived.RowKit3
import Derived.Deep.LoopGhost
import Derived.Deep.QuietTactic
import Derived.BigQuiet
import Derived.WideLaws
import Derived.Deep.DeepCutAuto
import Derived.Deep.CutBlock
import Derived.Deep.RegionHeld3
import Derived.Laws.Rows
import Derived.Lib.AppendStr
import Derived.ArgAppend
import Derived.Laws.IdiomCopy
import Derived.OrdersHeld
import Derived.Laws.BitsLemmas
import Derived.RowKit
import Derived.Test.YtmmacpicbonhhaaIndH
import Derived.Test.YtmmacpicbonhhaaIndP
import Derived.Test.YtmmacpicbonhhaaKnd16
import Derived.Test.YtmmacpicbonhhaaPrt
import Derived.Test.YtmmacpicbonhhaaKndW
import Derived.Test.YtmmacpicbonhhaaNmW
import Derived.Test.YtmmacpicbonhhaaSufWalk
import Derived.Test.YtmmacpicbonhhaaWWords
import Derived.Test.YtmmacpicbonhhaaWLast
import Derived.Test.YtmmacpicbonhhaaWTab
import Derived.Test.YtmmacpicbonhhaaWQPut
import Derived.Test.YtmmacpicbonhhaaWApart
import Derived.Test.YtmmacpicbonhhaaWArr
import Derived.Test.YtmmacpicbonhhaaWZeros
import Derived.Test.YtmmacpicbonhhaaWFoot
import Derived.Test.YtmmacpicbonhhaaWKept
import Derived.Test.YtmmacpicbonhhaaWShare
import Derived.Test.YtmmacpicbonhhaaWN
import Derived.Test.YtmmacpicbonhhaaWFootNe
import Derived.Test.YtmmacpicbonhhaaWAt
import Derived.Test.YtmmacpicbonhhaaWEqStruct
import Derived.Test.YtmmacpicbonhhaaWRepsOne
import Derived.Test.YtmmacpicbonhhaaWGuard
import Derived.Test.YtmmacpicbonhhaaWNEv
import Derived.Test.YtmmacpicbonhhaaWMore
import Derived.Test.YtmmacpicbonhhaaWSized
namespace Go.Proofs.Ytmmacpicbonhhaa.PSal
set_option maxRecDepth 100000
open Go.RowKit Go.Proofs.YtmmacpicbonhhaaW.PrintWords Go.Proofs.YtmmacpicbonhhaaW.PrintLast Go.Proofs.YtmmacpicbonhhaaW.PrintMore
attribute [local go_sem] max2_int min2_int max_two min_two max_three min_three max_four min_four   -- for this text's walks alone
set_option linter.unusedVariables false
set_option linter.unusedSimpArgs false



def errW : Option Int → Value
 | none => .nilIface
 | some c => .iface 0 (.int .i64 c)
theorem errW_none : errW none = .nilIface := rfl
theorem errW_some (c : Int) : errW (some c) = .iface 0 (.int .i64 c) := rfl

theorem info3 : (Try.prog.info? 3).map (fun i => (i.zero, i.size, i.bytes)) = some (some (.int .i64 0), 1, 8) := by kernel_rfl
theorem info4 : (Try.prog.info? 4).map (fun i => (i.zero, i.size, i.bytes)) = some (some (.bool false), 1, 1) := by kernel_rfl
-- the values' own types

end Go.Proofs.Ytmmacpicbonhhaa.PSal
