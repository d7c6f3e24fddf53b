/-
  No cell of these rows narrows 'for every input' (looked for: loops, veiled, ifaces, maps, wideKeys, modest, calm, conditions, laid).
  DERIVED. THE GIVEN ROWS OF THIS SEAT. 10 by the template 'for every input the law returns true; each argument reads behind the call as it read before'; 0 by the template 'total and deterministic' (their statements: YtneliajeokajbaaTotals.lean).
  GIVEN WITH THE SEED: the statements are not yours to turn. If you find one false, say at which input.
  Laid BY PROGRAM, IN A SANDBOX (cutbox-rows.mjs): the forced cells as the released guide's own fill.sh prints them over the translation 6e19dcc2034d36c3… (all of the seat's roots in one cut). By AI agents, Wed Nov 11 2026. No macro, syntax, notation, axiom, sorry.
-/
import Derived.Test.YtneliajeokajbaaChecked
import GoSem.Claim
import GoSem.ClaimJoined
import GoSem.ClaimMapViews
import Derived.JoinedTies
import Derived.KernelRfl
namespace Go.Proofs.Ytneliajeokajbaa
/- THE CELL 'sum', in the pinned program and in every row, IS THE sha256 OF THE DUMP (.gsa) THAT YtneliajeokajbaaProg.lean LOADS. Nothing in Lean hashes anything: it is a label: what it is worth is what the hold of that sum in a sandbox is worth. -/
noncomputable def Try.pinned : Pinned := { name := "ytneliajeokajbaa", sum := "6e19dcc2034d36c3bb8376a1f4f8f445799371f1e6a57de469b054fb0a0f1528", checked := Try.checked }
namespace Rows
def none {H : Type} : Left H := { results := [], args := [] }

/-- 'incipitlaw14.AlphaTexts': WHATEVER THE INPUT: true; the input reads as it did. -/
def alphaTextsSpec : ChangeSpec := { name := "alphaTexts", fn := fun _ => fun
  | [d1, d2] => { results := [.lit (.bool true)], args := [d1, d2] }
  | _ => none }
def alphaTextsRow : OpenClaim := { program := "ytneliajeokajbaa", sum := "6e19dcc2034d36c3bb8376a1f4f8f445799371f1e6a57de469b054fb0a0f1528", func := "incipit/incipitlaw14.AlphaTexts", spec := "alphaTexts", unfollowed := true, recurses := true, apart := false }
def AlphaTextsSaid : Prop := alphaTextsRow.holds Try.pinned (OpenSpec.ofChange alphaTextsSpec)

/-- ITS FALSE NEIGHBOUR: 'it returns false'. Refute it at one input. -/
def alphaTextsWrong : ChangeSpec := { name := "alphaTexts", fn := fun _ => fun
  | [d1, d2] => { results := [.lit (.bool false)], args := [d1, d2] }
  | _ => none }
def AlphaTextsWrongFalsely : Prop := alphaTextsRow.holds Try.pinned (OpenSpec.ofChange alphaTextsWrong)

/-- 'incipitlaw08.ExtentOf': WHATEVER THE INPUT: true; the input reads as it did. -/
def extentOfSpec : ChangeSpec := { name := "extentOf", fn := fun _ => fun
  | [d] => { results := [.lit (.bool true)], args := [d] }
  | _ => none }
def extentOfRow : OpenClaim := { program := "ytneliajeokajbaa", sum := "6e19dcc2034d36c3bb8376a1f4f8f445799371f1e6a57de469b054fb0a0f1528", func := "incipit/incipitlaw08.ExtentOf", spec := "extentOf", unfollowed := true, recurses := true, apart := false }
def ExtentOfSaid : Prop := extentOfRow.holds Try.pinned (OpenSpec.ofChange extentOfSpec)

/-- ITS FALSE NEIGHBOUR: 'it returns false'. Refute it at one input. -/
def extentOfWrong : ChangeSpec := { name := "extentOf", fn := fun _ => fun
  | [d] => { results := [.lit (.bool false)], args := [d] }
  | _ => none }
def ExtentOfWrongFalsely : Prop := extentOfRow.holds Try.pinned (OpenSpec.ofChange extentOfWrong)

/-- 'incipitlaw14.AlphaTables': WHATEVER THE INPUT: true; the input reads as it did. -/
def alphaTablesSpec : ChangeSpec := { name := "alphaTables", fn := fun _ => fun
  | [d1, d2, d3] => { results := [.lit (.bool true)], args := [d1, d2, d3] }
  | _ => none }
def alphaTablesRow : OpenClaim := { program := "ytneliajeokajbaa", sum := "6e19dcc2034d36c3bb8376a1f4f8f445799371f1e6a57de469b054fb0a0f1528", func := "incipit/incipitlaw14.AlphaTables", spec := "alphaTables", unfollowed := true, recurses := true, apart := false }
def AlphaTablesSaid : Prop := alphaTablesRow.holds Try.pinned (OpenSpec.ofChange alphaTablesSpec)

/-- ITS FALSE NEIGHBOUR: 'it returns false'. Refute it at one input. -/
def alphaTablesWrong : ChangeSpec := { name := "alphaTables", fn := fun _ => fun
  | [d1, d2, d3] => { results := [.lit (.bool false)], args := [d1, d2, d3] }
  | _ => none }
def AlphaTablesWrongFalsely : Prop := alphaTablesRow.holds Try.pinned (OpenSpec.ofChange alphaTablesWrong)

/-- 'incipitlaw12.PackedPlays': WHATEVER THE INPUT: true; the input reads as it did. -/
def packedPlaysSpec : ChangeSpec := { name := "packedPlays", fn := fun _ => fun
  | [d1, d2, d3] => { results := [.lit (.bool true)], args := [d1, d2, d3] }
  | _ => none }
def packedPlaysRow : OpenClaim := { program := "ytneliajeokajbaa", sum := "6e19dcc2034d36c3bb8376a1f4f8f445799371f1e6a57de469b054fb0a0f1528", func := "incipit/incipitlaw12.PackedPlays", spec := "packedPlays", unfollowed := true, recurses := true, apart := false }
def PackedPlaysSaid : Prop := packedPlaysRow.holds Try.pinned (OpenSpec.ofChange packedPlaysSpec)

/-- ITS FALSE NEIGHBOUR: 'it returns false'. Refute it at one input. -/
def packedPlaysWrong : ChangeSpec := { name := "packedPlays", fn := fun _ => fun
  | [d1, d2, d3] => { results := [.lit (.bool false)], args := [d1, d2, d3] }
  | _ => none }
def PackedPlaysWrongFalsely : Prop := packedPlaysRow.holds Try.pinned (OpenSpec.ofChange packedPlaysWrong)

/-- 'incipitlaw12.PackedNil': WHATEVER THE INPUT: true; the input reads as it did. -/
def packedNilSpec : ChangeSpec := { name := "packedNil", fn := fun _ => fun
  | [d1, d2] => { results := [.lit (.bool true)], args := [d1, d2] }
  | _ => none }
def packedNilRow : OpenClaim := { program := "ytneliajeokajbaa", sum := "6e19dcc2034d36c3bb8376a1f4f8f445799371f1e6a57de469b054fb0a0f1528", func := "incipit/incipitlaw12.PackedNil", spec := "packedNil", unfollowed := true, recurses := true, apart := false }
def PackedNilSaid : Prop := packedNilRow.holds Try.pinned (OpenSpec.ofChange packedNilSpec)

/-- ITS FALSE NEIGHBOUR: 'it returns false'. Refute it at one input. -/
def packedNilWrong : ChangeSpec := { name := "packedNil", fn := fun _ => fun
  | [d1, d2] => { results := [.lit (.bool false)], args := [d1, d2] }
  | _ => none }
def PackedNilWrongFalsely : Prop := packedNilRow.holds Try.pinned (OpenSpec.ofChange packedNilWrong)

/-- 'incipitlaw08.ExtentTells': WHATEVER THE INPUT: true; the input reads as it did. -/
def extentTellsSpec : ChangeSpec := { name := "extentTells", fn := fun _ => fun
  | [d1, d2, d3, d4, d5] => { results := [.lit (.bool true)], args := [d1, d2, d3, d4, d5] }
  | _ => none }
def extentTellsRow : OpenClaim := { program := "ytneliajeokajbaa", sum := "6e19dcc2034d36c3bb8376a1f4f8f445799371f1e6a57de469b054fb0a0f1528", func := "incipit/incipitlaw08.ExtentTells", spec := "extentTells", unfollowed := true, recurses := true, apart := false }
def ExtentTellsSaid : Prop := extentTellsRow.holds Try.pinned (OpenSpec.ofChange extentTellsSpec)

/-- ITS FALSE NEIGHBOUR: 'it returns false'. Refute it at one input. -/
def extentTellsWrong : ChangeSpec := { name := "extentTells", fn := fun _ => fun
  | [d1, d2, d3, d4, d5] => { results := [.lit (.bool false)], args := [d1, d2, d3, d4, d5] }
  | _ => none }
def ExtentTellsWrongFalsely : Prop := extentTellsRow.holds Try.pinned (OpenSpec.ofChange extentTellsWrong)

/-- 'incipitlaw14.AlphaNil': WHATEVER THE INPUT: true; the input reads as it did. -/
def alphaNilSpec : ChangeSpec := { name := "alphaNil", fn := fun _ => fun
  | [d1, d2] => { results := [.lit (.bool true)], args := [d1, d2] }
  | _ => none }
def alphaNilRow : OpenClaim := { program := "ytneliajeokajbaa", sum := "6e19dcc2034d36c3bb8376a1f4f8f445799371f1e6a57de469b054fb0a0f1528", func := "incipit/incipitlaw14.AlphaNil", spec := "alphaNil", unfollowed := true, recurses := true, apart := false }
def AlphaNilSaid : Prop := alphaNilRow.holds Try.pinned (OpenSpec.ofChange alphaNilSpec)

/-- ITS FALSE NEIGHBOUR: 'it returns false'. Refute it at one input. -/
def alphaNilWrong : ChangeSpec := { name := "alphaNil", fn := fun _ => fun
  | [d1, d2] => { results := [.lit (.bool false)], args := [d1, d2] }
  | _ => none }
def AlphaNilWrongFalsely : Prop := alphaNilRow.holds Try.pinned (OpenSpec.ofChange alphaNilWrong)

/-- 'incipitlaw08.ExtentBytes': WHATEVER THE INPUT: true; the input reads as it did. -/
def extentBytesSpec : ChangeSpec := { name := "extentBytes", fn := fun _ => fun
  | [d1, d2] => { results := [.lit (.bool true)], args := [d1, d2] }
  | _ => none }
def extentBytesRow : OpenClaim := { program := "ytneliajeokajbaa", sum := "6e19dcc2034d36c3bb8376a1f4f8f445799371f1e6a57de469b054fb0a0f1528", func := "incipit/incipitlaw08.ExtentBytes", spec := "extentBytes", unfollowed := true, recurses := true, apart := false }
def ExtentBytesSaid : Prop := extentBytesRow.holds Try.pinned (OpenSpec.ofChange extentBytesSpec)

/-- ITS FALSE NEIGHBOUR: 'it returns false'. Refute it at one input. -/
def extentBytesWrong : ChangeSpec := { name := "extentBytes", fn := fun _ => fun
  | [d1, d2] => { results := [.lit (.bool false)], args := [d1, d2] }
  | _ => none }
def ExtentBytesWrongFalsely : Prop := extentBytesRow.holds Try.pinned (OpenSpec.ofChange extentBytesWrong)

/-- 'incipitlaw12.PackedFits': WHATEVER THE INPUT: true; the input reads as it did. -/
def packedFitsSpec : ChangeSpec := { name := "packedFits", fn := fun _ => fun
  | [d1, d2] => { results := [.lit (.bool true)], args := [d1, d2] }
  | _ => none }
def packedFitsRow : OpenClaim := { program := "ytneliajeokajbaa", sum := "6e19dcc2034d36c3bb8376a1f4f8f445799371f1e6a57de469b054fb0a0f1528", func := "incipit/incipitlaw12.PackedFits", spec := "packedFits", unfollowed := true, recurses := true, apart := false }
def PackedFitsSaid : Prop := packedFitsRow.holds Try.pinned (OpenSpec.ofChange packedFitsSpec)

/-- ITS FALSE NEIGHBOUR: 'it returns false'. Refute it at one input. -/
def packedFitsWrong : ChangeSpec := { name := "packedFits", fn := fun _ => fun
  | [d1, d2] => { results := [.lit (.bool false)], args := [d1, d2] }
  | _ => none }
def PackedFitsWrongFalsely : Prop := packedFitsRow.holds Try.pinned (OpenSpec.ofChange packedFitsWrong)

/-- 'incipitlaw14.AlphaBytes': WHATEVER THE INPUT: true; the input reads as it did. -/
def alphaBytesSpec : ChangeSpec := { name := "alphaBytes", fn := fun _ => fun
  | [d1, d2] => { results := [.lit (.bool true)], args := [d1, d2] }
  | _ => none }
def alphaBytesRow : OpenClaim := { program := "ytneliajeokajbaa", sum := "6e19dcc2034d36c3bb8376a1f4f8f445799371f1e6a57de469b054fb0a0f1528", func := "incipit/incipitlaw14.AlphaBytes", spec := "alphaBytes", unfollowed := true, recurses := true, apart := false }
def AlphaBytesSaid : Prop := alphaBytesRow.holds Try.pinned (OpenSpec.ofChange alphaBytesSpec)

/-- ITS FALSE NEIGHBOUR: 'it returns false'. Refute it at one input. -/
def alphaBytesWrong : ChangeSpec := { name := "alphaBytes", fn := fun _ => fun
  | [d1, d2] => { results := [.lit (.bool false)], args := [d1, d2] }
  | _ => none }
def AlphaBytesWrongFalsely : Prop := alphaBytesRow.holds Try.pinned (OpenSpec.ofChange alphaBytesWrong)

/- THE SECOND FORM. 'bulk': how many values and letters a reading holds, each counted each time it is reached (what is shared counts as often as it is met; a slice's spare places count too). A statement '..UptoSaid' is the law's where the arguments, and the package variables that the reading takes, are together of bulk at most 1048576: NARROWER than '..Said'. Prove '..Said' where nothing that the law and all that it calls make is longer than what came in: it says more and counts as full. Else prove '..UptoSaid'. A law counts once. -/
mutual
def uptoBulk {H : Type} : DataW H → Nat
  | .lit (.string bytes) => bytes.length + 1
  | .lit _ => 1
  | .nil => 1
  | .ptr d => uptoBulk d + 1
  | .slice elems spare => uptoBulkAll elems + uptoBulkAll spare + 1
  | .agg parts => uptoBulkAll parts + 1
  | .iface _ d => uptoBulk d + 1
  | .map entries => uptoBulkEntries entries + 1
  | .held _ => 1
def uptoBulkAll {H : Type} : List (DataW H) → Nat
  | [] => 0
  | d :: r => uptoBulk d + uptoBulkAll r
def uptoBulkEntries {H : Type} : List (Lit × DataW H) → Nat
  | [] => 0
  | x :: r => uptoBulkEntry x + uptoBulkEntries r
def uptoBulkEntry {H : Type} : Lit × DataW H → Nat
  | (.string bytes, d) => bytes.length + uptoBulk d + 1
  | (_, d) => uptoBulk d + 1
 end
def uptoSmall : (H : Type) → List (DataW H) → Bool := fun _ ds => decide (uptoBulkAll ds ≤ 1048576)
def OpenSpec.upto (s : _root_.Go.ChangeSpec) : _root_.Go.OpenSpec := { _root_.Go.OpenSpec.ofChange s with cond := some uptoSmall }

/-- 'incipitlaw14.AlphaTexts', WHERE WHAT IT READS IS OF BULK AT MOST 1048576: true; the input reads as it did. -/
def alphaTextsUptoRow : OpenClaim := { program := "ytneliajeokajbaa", sum := "6e19dcc2034d36c3bb8376a1f4f8f445799371f1e6a57de469b054fb0a0f1528", func := "incipit/incipitlaw14.AlphaTexts", spec := "alphaTexts", unfollowed := true, recurses := true, apart := false, narrowed := true }
def AlphaTextsUptoSaid : Prop := alphaTextsUptoRow.holds Try.pinned (OpenSpec.upto alphaTextsSpec)

/-- 'incipitlaw08.ExtentOf', WHERE WHAT IT READS IS OF BULK AT MOST 1048576: true; the input reads as it did. -/
def extentOfUptoRow : OpenClaim := { program := "ytneliajeokajbaa", sum := "6e19dcc2034d36c3bb8376a1f4f8f445799371f1e6a57de469b054fb0a0f1528", func := "incipit/incipitlaw08.ExtentOf", spec := "extentOf", unfollowed := true, recurses := true, apart := false, narrowed := true }
def ExtentOfUptoSaid : Prop := extentOfUptoRow.holds Try.pinned (OpenSpec.upto extentOfSpec)

/-- 'incipitlaw14.AlphaTables', WHERE WHAT IT READS IS OF BULK AT MOST 1048576: true; the input reads as it did. -/
def alphaTablesUptoRow : OpenClaim := { program := "ytneliajeokajbaa", sum := "6e19dcc2034d36c3bb8376a1f4f8f445799371f1e6a57de469b054fb0a0f1528", func := "incipit/incipitlaw14.AlphaTables", spec := "alphaTables", unfollowed := true, recurses := true, apart := false, narrowed := true }
def AlphaTablesUptoSaid : Prop := alphaTablesUptoRow.holds Try.pinned (OpenSpec.upto alphaTablesSpec)

/-- 'incipitlaw12.PackedPlays', WHERE WHAT IT READS IS OF BULK AT MOST 1048576: true; the input reads as it did. -/
def packedPlaysUptoRow : OpenClaim := { program := "ytneliajeokajbaa", sum := "6e19dcc2034d36c3bb8376a1f4f8f445799371f1e6a57de469b054fb0a0f1528", func := "incipit/incipitlaw12.PackedPlays", spec := "packedPlays", unfollowed := true, recurses := true, apart := false, narrowed := true }
def PackedPlaysUptoSaid : Prop := packedPlaysUptoRow.holds Try.pinned (OpenSpec.upto packedPlaysSpec)

/-- 'incipitlaw12.PackedNil', WHERE WHAT IT READS IS OF BULK AT MOST 1048576: true; the input reads as it did. -/
def packedNilUptoRow : OpenClaim := { program := "ytneliajeokajbaa", sum := "6e19dcc2034d36c3bb8376a1f4f8f445799371f1e6a57de469b054fb0a0f1528", func := "incipit/incipitlaw12.PackedNil", spec := "packedNil", unfollowed := true, recurses := true, apart := false, narrowed := true }
def PackedNilUptoSaid : Prop := packedNilUptoRow.holds Try.pinned (OpenSpec.upto packedNilSpec)

/-- 'incipitlaw08.ExtentTells', WHERE WHAT IT READS IS OF BULK AT MOST 1048576: true; the input reads as it did. -/
def extentTellsUptoRow : OpenClaim := { program := "ytneliajeokajbaa", sum := "6e19dcc2034d36c3bb8376a1f4f8f445799371f1e6a57de469b054fb0a0f1528", func := "incipit/incipitlaw08.ExtentTells", spec := "extentTells", unfollowed := true, recurses := true, apart := false, narrowed := true }
def ExtentTellsUptoSaid : Prop := extentTellsUptoRow.holds Try.pinned (OpenSpec.upto extentTellsSpec)

/-- 'incipitlaw14.AlphaNil', WHERE WHAT IT READS IS OF BULK AT MOST 1048576: true; the input reads as it did. -/
def alphaNilUptoRow : OpenClaim := { program := "ytneliajeokajbaa", sum := "6e19dcc2034d36c3bb8376a1f4f8f445799371f1e6a57de469b054fb0a0f1528", func := "incipit/incipitlaw14.AlphaNil", spec := "alphaNil", unfollowed := true, recurses := true, apart := false, narrowed := true }
def AlphaNilUptoSaid : Prop := alphaNilUptoRow.holds Try.pinned (OpenSpec.upto alphaNilSpec)

/-- 'incipitlaw08.ExtentBytes', WHERE WHAT IT READS IS OF BULK AT MOST 1048576: true; the input reads as it did. -/
def extentBytesUptoRow : OpenClaim := { program := "ytneliajeokajbaa", sum := "6e19dcc2034d36c3bb8376a1f4f8f445799371f1e6a57de469b054fb0a0f1528", func := "incipit/incipitlaw08.ExtentBytes", spec := "extentBytes", unfollowed := true, recurses := true, apart := false, narrowed := true }
def ExtentBytesUptoSaid : Prop := extentBytesUptoRow.holds Try.pinned (OpenSpec.upto extentBytesSpec)

/-- 'incipitlaw12.PackedFits', WHERE WHAT IT READS IS OF BULK AT MOST 1048576: true; the input reads as it did. -/
def packedFitsUptoRow : OpenClaim := { program := "ytneliajeokajbaa", sum := "6e19dcc2034d36c3bb8376a1f4f8f445799371f1e6a57de469b054fb0a0f1528", func := "incipit/incipitlaw12.PackedFits", spec := "packedFits", unfollowed := true, recurses := true, apart := false, narrowed := true }
def PackedFitsUptoSaid : Prop := packedFitsUptoRow.holds Try.pinned (OpenSpec.upto packedFitsSpec)

/-- 'incipitlaw14.AlphaBytes', WHERE WHAT IT READS IS OF BULK AT MOST 1048576: true; the input reads as it did. -/
def alphaBytesUptoRow : OpenClaim := { program := "ytneliajeokajbaa", sum := "6e19dcc2034d36c3bb8376a1f4f8f445799371f1e6a57de469b054fb0a0f1528", func := "incipit/incipitlaw14.AlphaBytes", spec := "alphaBytes", unfollowed := true, recurses := true, apart := false, narrowed := true }
def AlphaBytesUptoSaid : Prop := alphaBytesUptoRow.holds Try.pinned (OpenSpec.upto alphaBytesSpec)

end Rows
end Go.Proofs.Ytneliajeokajbaa
