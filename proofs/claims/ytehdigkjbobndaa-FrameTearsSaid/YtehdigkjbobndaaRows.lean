/-
  No cell of these rows narrows 'for every input' (looked for: loops, veiled, ifaces, maps, wideKeys, modest, calm, conditions, laid).
  DERIVED. THE GIVEN ROWS OF THIS SEAT. 9 by the template 'for every input the law returns true; each argument reads behind the call as it read before'; 0 by the template 'total and deterministic' (their statements: YtehdigkjbobndaaTotals.lean).
  GIVEN WITH THE SEED: the statements are not yours to turn. If you find one false, say at which input.
  Laid BY PROGRAM, IN A SANDBOX (cutbox-rows.mjs): the forced cells as the released guide's own fill.sh prints them over the translation d935bd6e7fce2ec1… (all of the seat's roots in one cut). By AI agents, Wed Nov 11 2026. No macro, syntax, notation, axiom, sorry.
-/
import Derived.Test.YtehdigkjbobndaaChecked
import GoSem.Claim
import GoSem.ClaimJoined
import GoSem.ClaimMapViews
import Derived.JoinedTies
import Derived.KernelRfl
namespace Go.Proofs.Ytehdigkjbobndaa
/- THE CELL 'sum', in the pinned program and in every row, IS THE sha256 OF THE DUMP (.gsa) THAT YtehdigkjbobndaaProg.lean LOADS. Nothing in Lean hashes anything: it is a label: what it is worth is what the hold of that sum in a sandbox is worth. -/
noncomputable def Try.pinned : Pinned := { name := "ytehdigkjbobndaa", sum := "d935bd6e7fce2ec11284a83a02126b151ec62f7415c75e30b868d5174f7f37b0", checked := Try.checked }
namespace Rows
def none {H : Type} : Left H := { results := [], args := [] }

/-- 'incipitlaw03.DeviceLoads': WHATEVER THE INPUT: true; the input reads as it did. -/
def deviceLoadsSpec : ChangeSpec := { name := "deviceLoads", fn := fun _ => fun
  | [d1, d2] => { results := [.lit (.bool true)], args := [d1, d2] }
  | _ => none }
def deviceLoadsRow : OpenClaim := { program := "ytehdigkjbobndaa", sum := "d935bd6e7fce2ec11284a83a02126b151ec62f7415c75e30b868d5174f7f37b0", func := "incipit/incipitlaw03.DeviceLoads", spec := "deviceLoads", inPlace := ["sync/atomic.AddInt64"], apart := false }
def DeviceLoadsSaid : Prop := deviceLoadsRow.holds Try.pinned (OpenSpec.ofChange deviceLoadsSpec)

/-- ITS FALSE NEIGHBOUR: 'it returns false'. Refute it at one input. -/
def deviceLoadsWrong : ChangeSpec := { name := "deviceLoads", fn := fun _ => fun
  | [d1, d2] => { results := [.lit (.bool false)], args := [d1, d2] }
  | _ => none }
def DeviceLoadsWrongFalsely : Prop := deviceLoadsRow.holds Try.pinned (OpenSpec.ofChange deviceLoadsWrong)

/-- 'incipitlaw03.DeviceKeeps': WHATEVER THE INPUT: true; the input reads as it did. -/
def deviceKeepsSpec : ChangeSpec := { name := "deviceKeeps", fn := fun _ => fun
  | [d1, d2, d3] => { results := [.lit (.bool true)], args := [d1, d2, d3] }
  | _ => none }
def deviceKeepsRow : OpenClaim := { program := "ytehdigkjbobndaa", sum := "d935bd6e7fce2ec11284a83a02126b151ec62f7415c75e30b868d5174f7f37b0", func := "incipit/incipitlaw03.DeviceKeeps", spec := "deviceKeeps", inPlace := ["sync/atomic.AddInt64"], apart := false }
def DeviceKeepsSaid : Prop := deviceKeepsRow.holds Try.pinned (OpenSpec.ofChange deviceKeepsSpec)

/-- ITS FALSE NEIGHBOUR: 'it returns false'. Refute it at one input. -/
def deviceKeepsWrong : ChangeSpec := { name := "deviceKeeps", fn := fun _ => fun
  | [d1, d2, d3] => { results := [.lit (.bool false)], args := [d1, d2, d3] }
  | _ => none }
def DeviceKeepsWrongFalsely : Prop := deviceKeepsRow.holds Try.pinned (OpenSpec.ofChange deviceKeepsWrong)

/-- 'incipitlaw03.DevicePlays': WHATEVER THE INPUT: true; the input reads as it did. -/
def devicePlaysSpec : ChangeSpec := { name := "devicePlays", fn := fun _ => fun
  | [d1, d2] => { results := [.lit (.bool true)], args := [d1, d2] }
  | _ => none }
def devicePlaysRow : OpenClaim := { program := "ytehdigkjbobndaa", sum := "d935bd6e7fce2ec11284a83a02126b151ec62f7415c75e30b868d5174f7f37b0", func := "incipit/incipitlaw03.DevicePlays", spec := "devicePlays", inPlace := ["sync/atomic.AddInt64", "sync/atomic.LoadInt64"], apart := false }
def DevicePlaysSaid : Prop := devicePlaysRow.holds Try.pinned (OpenSpec.ofChange devicePlaysSpec)

/-- ITS FALSE NEIGHBOUR: 'it returns false'. Refute it at one input. -/
def devicePlaysWrong : ChangeSpec := { name := "devicePlays", fn := fun _ => fun
  | [d1, d2] => { results := [.lit (.bool false)], args := [d1, d2] }
  | _ => none }
def DevicePlaysWrongFalsely : Prop := devicePlaysRow.holds Try.pinned (OpenSpec.ofChange devicePlaysWrong)

/-- 'incipitlaw03.DeviceNil': WHATEVER THE INPUT: true; the input reads as it did. -/
def deviceNilSpec : ChangeSpec := { name := "deviceNil", fn := fun _ => fun
  | [d1, d2] => { results := [.lit (.bool true)], args := [d1, d2] }
  | _ => none }
def deviceNilRow : OpenClaim := { program := "ytehdigkjbobndaa", sum := "d935bd6e7fce2ec11284a83a02126b151ec62f7415c75e30b868d5174f7f37b0", func := "incipit/incipitlaw03.DeviceNil", spec := "deviceNil", inPlace := ["sync/atomic.AddInt64", "sync/atomic.LoadInt64"], apart := false }
def DeviceNilSaid : Prop := deviceNilRow.holds Try.pinned (OpenSpec.ofChange deviceNilSpec)

/-- ITS FALSE NEIGHBOUR: 'it returns false'. Refute it at one input. -/
def deviceNilWrong : ChangeSpec := { name := "deviceNil", fn := fun _ => fun
  | [d1, d2] => { results := [.lit (.bool false)], args := [d1, d2] }
  | _ => none }
def DeviceNilWrongFalsely : Prop := deviceNilRow.holds Try.pinned (OpenSpec.ofChange deviceNilWrong)

/-- 'incipitlaw04.FrameBytes': WHATEVER THE INPUT: true; the input reads as it did. -/
def frameBytesSpec : ChangeSpec := { name := "frameBytes", fn := fun _ => fun
  | [d] => { results := [.lit (.bool true)], args := [d] }
  | _ => none }
def frameBytesRow : OpenClaim := { program := "ytehdigkjbobndaa", sum := "d935bd6e7fce2ec11284a83a02126b151ec62f7415c75e30b868d5174f7f37b0", func := "incipit/incipitlaw04.FrameBytes", spec := "frameBytes", apart := false }
def FrameBytesSaid : Prop := frameBytesRow.holds Try.pinned (OpenSpec.ofChange frameBytesSpec)

/-- ITS FALSE NEIGHBOUR: 'it returns false'. Refute it at one input. -/
def frameBytesWrong : ChangeSpec := { name := "frameBytes", fn := fun _ => fun
  | [d] => { results := [.lit (.bool false)], args := [d] }
  | _ => none }
def FrameBytesWrongFalsely : Prop := frameBytesRow.holds Try.pinned (OpenSpec.ofChange frameBytesWrong)

/-- 'incipitlaw04.FrameTears': WHATEVER THE INPUT: true; the input reads as it did. -/
def frameTearsSpec : ChangeSpec := { name := "frameTears", fn := fun _ => fun
  | [d1, d2, d3] => { results := [.lit (.bool true)], args := [d1, d2, d3] }
  | _ => none }
def frameTearsRow : OpenClaim := { program := "ytehdigkjbobndaa", sum := "d935bd6e7fce2ec11284a83a02126b151ec62f7415c75e30b868d5174f7f37b0", func := "incipit/incipitlaw04.FrameTears", spec := "frameTears", apart := false }
def FrameTearsSaid : Prop := frameTearsRow.holds Try.pinned (OpenSpec.ofChange frameTearsSpec)

/-- ITS FALSE NEIGHBOUR: 'it returns false'. Refute it at one input. -/
def frameTearsWrong : ChangeSpec := { name := "frameTears", fn := fun _ => fun
  | [d1, d2, d3] => { results := [.lit (.bool false)], args := [d1, d2, d3] }
  | _ => none }
def FrameTearsWrongFalsely : Prop := frameTearsRow.holds Try.pinned (OpenSpec.ofChange frameTearsWrong)

/-- 'incipitlaw04.FrameReads': WHATEVER THE INPUT: true; the input reads as it did. -/
def frameReadsSpec : ChangeSpec := { name := "frameReads", fn := fun _ => fun
  | [d1, d2, d3, d4] => { results := [.lit (.bool true)], args := [d1, d2, d3, d4] }
  | _ => none }
def frameReadsRow : OpenClaim := { program := "ytehdigkjbobndaa", sum := "d935bd6e7fce2ec11284a83a02126b151ec62f7415c75e30b868d5174f7f37b0", func := "incipit/incipitlaw04.FrameReads", spec := "frameReads", apart := false }
def FrameReadsSaid : Prop := frameReadsRow.holds Try.pinned (OpenSpec.ofChange frameReadsSpec)

/-- ITS FALSE NEIGHBOUR: 'it returns false'. Refute it at one input. -/
def frameReadsWrong : ChangeSpec := { name := "frameReads", fn := fun _ => fun
  | [d1, d2, d3, d4] => { results := [.lit (.bool false)], args := [d1, d2, d3, d4] }
  | _ => none }
def FrameReadsWrongFalsely : Prop := frameReadsRow.holds Try.pinned (OpenSpec.ofChange frameReadsWrong)

/-- 'incipitlaw04.FrameTurns': WHATEVER THE INPUT: true; the input reads as it did. -/
def frameTurnsSpec : ChangeSpec := { name := "frameTurns", fn := fun _ => fun
  | [d1, d2, d3] => { results := [.lit (.bool true)], args := [d1, d2, d3] }
  | _ => none }
def frameTurnsRow : OpenClaim := { program := "ytehdigkjbobndaa", sum := "d935bd6e7fce2ec11284a83a02126b151ec62f7415c75e30b868d5174f7f37b0", func := "incipit/incipitlaw04.FrameTurns", spec := "frameTurns", apart := false }
def FrameTurnsSaid : Prop := frameTurnsRow.holds Try.pinned (OpenSpec.ofChange frameTurnsSpec)

/-- ITS FALSE NEIGHBOUR: 'it returns false'. Refute it at one input. -/
def frameTurnsWrong : ChangeSpec := { name := "frameTurns", fn := fun _ => fun
  | [d1, d2, d3] => { results := [.lit (.bool false)], args := [d1, d2, d3] }
  | _ => none }
def FrameTurnsWrongFalsely : Prop := frameTurnsRow.holds Try.pinned (OpenSpec.ofChange frameTurnsWrong)

/-- 'incipitlaw04.FrameDevices': WHATEVER THE INPUT: true; the input reads as it did. -/
def frameDevicesSpec : ChangeSpec := { name := "frameDevices", fn := fun _ => fun
  | [d1, d2, d3, d4] => { results := [.lit (.bool true)], args := [d1, d2, d3, d4] }
  | _ => none }
def frameDevicesRow : OpenClaim := { program := "ytehdigkjbobndaa", sum := "d935bd6e7fce2ec11284a83a02126b151ec62f7415c75e30b868d5174f7f37b0", func := "incipit/incipitlaw04.FrameDevices", spec := "frameDevices", inPlace := ["sync/atomic.AddInt64"], apart := false }
def FrameDevicesSaid : Prop := frameDevicesRow.holds Try.pinned (OpenSpec.ofChange frameDevicesSpec)

/-- ITS FALSE NEIGHBOUR: 'it returns false'. Refute it at one input. -/
def frameDevicesWrong : ChangeSpec := { name := "frameDevices", fn := fun _ => fun
  | [d1, d2, d3, d4] => { results := [.lit (.bool false)], args := [d1, d2, d3, d4] }
  | _ => none }
def FrameDevicesWrongFalsely : Prop := frameDevicesRow.holds Try.pinned (OpenSpec.ofChange frameDevicesWrong)

/- THE SECOND FORM. 'bulk': how many values and letters a reading holds, each counted each time it is reached (what is shared counts as often as it is met; a slice's spare places count too). A statement '..UptoSaid' is the law's where the arguments, and the package variables that the reading takes, are together of bulk at most 1048576: NARROWER than '..Said'. Prove '..Said' where nothing that the law and all that it calls make is longer than what came in: it says more and counts as full. Else prove '..UptoSaid'. A law counts once. -/
mutual
def uptoBulk {H : Type} : DataW H → Nat
  | .lit (.string bytes) => bytes.length + 1
  | .lit _ => 1
  | .nil => 1
  | .ptr d => uptoBulk d + 1
  | .slice elems spare => uptoBulkAll elems + uptoBulkAll spare + 1
  | .agg parts => uptoBulkAll parts + 1
  | .iface _ d => uptoBulk d + 1
  | .map entries => uptoBulkEntries entries + 1
  | .held _ => 1
def uptoBulkAll {H : Type} : List (DataW H) → Nat
  | [] => 0
  | d :: r => uptoBulk d + uptoBulkAll r
def uptoBulkEntries {H : Type} : List (Lit × DataW H) → Nat
  | [] => 0
  | x :: r => uptoBulkEntry x + uptoBulkEntries r
def uptoBulkEntry {H : Type} : Lit × DataW H → Nat
  | (.string bytes, d) => bytes.length + uptoBulk d + 1
  | (_, d) => uptoBulk d + 1
 end
def uptoSmall : (H : Type) → List (DataW H) → Bool := fun _ ds => decide (uptoBulkAll ds ≤ 1048576)
def OpenSpec.upto (s : _root_.Go.ChangeSpec) : _root_.Go.OpenSpec := { _root_.Go.OpenSpec.ofChange s with cond := some uptoSmall }

/-- 'incipitlaw03.DeviceLoads', WHERE WHAT IT READS IS OF BULK AT MOST 1048576: true; the input reads as it did. -/
def deviceLoadsUptoRow : OpenClaim := { program := "ytehdigkjbobndaa", sum := "d935bd6e7fce2ec11284a83a02126b151ec62f7415c75e30b868d5174f7f37b0", func := "incipit/incipitlaw03.DeviceLoads", spec := "deviceLoads", inPlace := ["sync/atomic.AddInt64"], apart := false, narrowed := true }
def DeviceLoadsUptoSaid : Prop := deviceLoadsUptoRow.holds Try.pinned (OpenSpec.upto deviceLoadsSpec)

/-- 'incipitlaw03.DeviceKeeps', WHERE WHAT IT READS IS OF BULK AT MOST 1048576: true; the input reads as it did. -/
def deviceKeepsUptoRow : OpenClaim := { program := "ytehdigkjbobndaa", sum := "d935bd6e7fce2ec11284a83a02126b151ec62f7415c75e30b868d5174f7f37b0", func := "incipit/incipitlaw03.DeviceKeeps", spec := "deviceKeeps", inPlace := ["sync/atomic.AddInt64"], apart := false, narrowed := true }
def DeviceKeepsUptoSaid : Prop := deviceKeepsUptoRow.holds Try.pinned (OpenSpec.upto deviceKeepsSpec)

/-- 'incipitlaw03.DevicePlays', WHERE WHAT IT READS IS OF BULK AT MOST 1048576: true; the input reads as it did. -/
def devicePlaysUptoRow : OpenClaim := { program := "ytehdigkjbobndaa", sum := "d935bd6e7fce2ec11284a83a02126b151ec62f7415c75e30b868d5174f7f37b0", func := "incipit/incipitlaw03.DevicePlays", spec := "devicePlays", inPlace := ["sync/atomic.AddInt64", "sync/atomic.LoadInt64"], apart := false, narrowed := true }
def DevicePlaysUptoSaid : Prop := devicePlaysUptoRow.holds Try.pinned (OpenSpec.upto devicePlaysSpec)

/-- 'incipitlaw03.DeviceNil', WHERE WHAT IT READS IS OF BULK AT MOST 1048576: true; the input reads as it did. -/
def deviceNilUptoRow : OpenClaim := { program := "ytehdigkjbobndaa", sum := "d935bd6e7fce2ec11284a83a02126b151ec62f7415c75e30b868d5174f7f37b0", func := "incipit/incipitlaw03.DeviceNil", spec := "deviceNil", inPlace := ["sync/atomic.AddInt64", "sync/atomic.LoadInt64"], apart := false, narrowed := true }
def DeviceNilUptoSaid : Prop := deviceNilUptoRow.holds Try.pinned (OpenSpec.upto deviceNilSpec)

/-- 'incipitlaw04.FrameBytes', WHERE WHAT IT READS IS OF BULK AT MOST 1048576: true; the input reads as it did. -/
def frameBytesUptoRow : OpenClaim := { program := "ytehdigkjbobndaa", sum := "d935bd6e7fce2ec11284a83a02126b151ec62f7415c75e30b868d5174f7f37b0", func := "incipit/incipitlaw04.FrameBytes", spec := "frameBytes", apart := false, narrowed := true }
def FrameBytesUptoSaid : Prop := frameBytesUptoRow.holds Try.pinned (OpenSpec.upto frameBytesSpec)

/-- 'incipitlaw04.FrameTears', WHERE WHAT IT READS IS OF BULK AT MOST 1048576: true; the input reads as it did. -/
def frameTearsUptoRow : OpenClaim := { program := "ytehdigkjbobndaa", sum := "d935bd6e7fce2ec11284a83a02126b151ec62f7415c75e30b868d5174f7f37b0", func := "incipit/incipitlaw04.FrameTears", spec := "frameTears", apart := false, narrowed := true }
def FrameTearsUptoSaid : Prop := frameTearsUptoRow.holds Try.pinned (OpenSpec.upto frameTearsSpec)

/-- 'incipitlaw04.FrameReads', WHERE WHAT IT READS IS OF BULK AT MOST 1048576: true; the input reads as it did. -/
def frameReadsUptoRow : OpenClaim := { program := "ytehdigkjbobndaa", sum := "d935bd6e7fce2ec11284a83a02126b151ec62f7415c75e30b868d5174f7f37b0", func := "incipit/incipitlaw04.FrameReads", spec := "frameReads", apart := false, narrowed := true }
def FrameReadsUptoSaid : Prop := frameReadsUptoRow.holds Try.pinned (OpenSpec.upto frameReadsSpec)

/-- 'incipitlaw04.FrameTurns', WHERE WHAT IT READS IS OF BULK AT MOST 1048576: true; the input reads as it did. -/
def frameTurnsUptoRow : OpenClaim := { program := "ytehdigkjbobndaa", sum := "d935bd6e7fce2ec11284a83a02126b151ec62f7415c75e30b868d5174f7f37b0", func := "incipit/incipitlaw04.FrameTurns", spec := "frameTurns", apart := false, narrowed := true }
def FrameTurnsUptoSaid : Prop := frameTurnsUptoRow.holds Try.pinned (OpenSpec.upto frameTurnsSpec)

/-- 'incipitlaw04.FrameDevices', WHERE WHAT IT READS IS OF BULK AT MOST 1048576: true; the input reads as it did. -/
def frameDevicesUptoRow : OpenClaim := { program := "ytehdigkjbobndaa", sum := "d935bd6e7fce2ec11284a83a02126b151ec62f7415c75e30b868d5174f7f37b0", func := "incipit/incipitlaw04.FrameDevices", spec := "frameDevices", inPlace := ["sync/atomic.AddInt64"], apart := false, narrowed := true }
def FrameDevicesUptoSaid : Prop := frameDevicesUptoRow.holds Try.pinned (OpenSpec.upto frameDevicesSpec)

end Rows
end Go.Proofs.Ytehdigkjbobndaa
