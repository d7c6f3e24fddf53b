/-
  No cell of these rows narrows 'for every input' (looked for: loops, veiled, ifaces, maps, wideKeys, modest, calm, conditions, laid).
  DERIVED. THE GIVEN ROWS OF THIS SEAT. 8 by the template 'for every input the law returns true; each argument reads behind the call as it read before'; 0 by the template 'total and deterministic' (their statements: YthnkebihpmggbaaTotals.lean).
  GIVEN WITH THE SEED: the statements are not yours to turn. If you find one false, say at which input.
  Laid BY PROGRAM, IN A SANDBOX (cutbox-rows.mjs): the forced cells as the released guide's own fill.sh prints them over the translation 2c1a7bcfc083d99e… (all of the seat's roots in one cut). By AI agents, Wed Nov 11 2026. No macro, syntax, notation, axiom, sorry.
-/
import Derived.Test.YthnkebihpmggbaaChecked
import GoSem.Claim
import GoSem.ClaimJoined
import GoSem.ClaimMapViews
import Derived.JoinedTies
import Derived.KernelRfl
namespace Go.Proofs.Ythnkebihpmggbaa
/- THE CELL 'sum', in the pinned program and in every row, IS THE sha256 OF THE DUMP (.gsa) THAT YthnkebihpmggbaaProg.lean LOADS. Nothing in Lean hashes anything: it is a label: what it is worth is what the hold of that sum in a sandbox is worth. -/
noncomputable def Try.pinned : Pinned := { name := "ythnkebihpmggbaa", sum := "2c1a7bcfc083d99eb91d1125374f0455b158ec7601da9e9206f9d961c719b3a4", checked := Try.checked }
namespace Rows
def none {H : Type} : Left H := { results := [], args := [] }

/-- 'incipitlaw01.CrcSums': WHATEVER THE INPUT: true; the input reads as it did. -/
def crcSumsSpec : ChangeSpec := { name := "crcSums", fn := fun _ => fun
  | [d] => { results := [.lit (.bool true)], args := [d] }
  | _ => none }
def crcSumsRow : OpenClaim := { program := "ythnkebihpmggbaa", sum := "2c1a7bcfc083d99eb91d1125374f0455b158ec7601da9e9206f9d961c719b3a4", func := "incipit/incipitlaw01.CrcSums", spec := "crcSums", apart := false }
def CrcSumsSaid : Prop := crcSumsRow.holds Try.pinned (OpenSpec.ofChange crcSumsSpec)

/-- ITS FALSE NEIGHBOUR: 'it returns false'. Refute it at one input. -/
def crcSumsWrong : ChangeSpec := { name := "crcSums", fn := fun _ => fun
  | [d] => { results := [.lit (.bool false)], args := [d] }
  | _ => none }
def CrcSumsWrongFalsely : Prop := crcSumsRow.holds Try.pinned (OpenSpec.ofChange crcSumsWrong)

/-- 'incipitlaw01.CrcRegister': WHATEVER THE INPUT: true; the input reads as it did. -/
def crcRegisterSpec : ChangeSpec := { name := "crcRegister", fn := fun _ => fun
  | [d] => { results := [.lit (.bool true)], args := [d] }
  | _ => none }
def crcRegisterRow : OpenClaim := { program := "ythnkebihpmggbaa", sum := "2c1a7bcfc083d99eb91d1125374f0455b158ec7601da9e9206f9d961c719b3a4", func := "incipit/incipitlaw01.CrcRegister", spec := "crcRegister", apart := false }
def CrcRegisterSaid : Prop := crcRegisterRow.holds Try.pinned (OpenSpec.ofChange crcRegisterSpec)

/-- ITS FALSE NEIGHBOUR: 'it returns false'. Refute it at one input. -/
def crcRegisterWrong : ChangeSpec := { name := "crcRegister", fn := fun _ => fun
  | [d] => { results := [.lit (.bool false)], args := [d] }
  | _ => none }
def CrcRegisterWrongFalsely : Prop := crcRegisterRow.holds Try.pinned (OpenSpec.ofChange crcRegisterWrong)

/-- 'incipitlaw02.VarintPuts': WHATEVER THE INPUT: true; the input reads as it did. -/
def varintPutsSpec : ChangeSpec := { name := "varintPuts", fn := fun _ => fun
  | [d1, d2] => { results := [.lit (.bool true)], args := [d1, d2] }
  | _ => none }
def varintPutsRow : OpenClaim := { program := "ythnkebihpmggbaa", sum := "2c1a7bcfc083d99eb91d1125374f0455b158ec7601da9e9206f9d961c719b3a4", func := "incipit/incipitlaw02.VarintPuts", spec := "varintPuts", apart := false }
def VarintPutsSaid : Prop := varintPutsRow.holds Try.pinned (OpenSpec.ofChange varintPutsSpec)

/-- ITS FALSE NEIGHBOUR: 'it returns false'. Refute it at one input. -/
def varintPutsWrong : ChangeSpec := { name := "varintPuts", fn := fun _ => fun
  | [d1, d2] => { results := [.lit (.bool false)], args := [d1, d2] }
  | _ => none }
def VarintPutsWrongFalsely : Prop := varintPutsRow.holds Try.pinned (OpenSpec.ofChange varintPutsWrong)

/-- 'incipitlaw01.CrcMarks': WHATEVER THE INPUT: true; the input reads as it did. -/
def crcMarksSpec : ChangeSpec := { name := "crcMarks", fn := fun _ => fun
  | [d] => { results := [.lit (.bool true)], args := [d] }
  | _ => none }
def crcMarksRow : OpenClaim := { program := "ythnkebihpmggbaa", sum := "2c1a7bcfc083d99eb91d1125374f0455b158ec7601da9e9206f9d961c719b3a4", func := "incipit/incipitlaw01.CrcMarks", spec := "crcMarks", apart := false }
def CrcMarksSaid : Prop := crcMarksRow.holds Try.pinned (OpenSpec.ofChange crcMarksSpec)

/-- ITS FALSE NEIGHBOUR: 'it returns false'. Refute it at one input. -/
def crcMarksWrong : ChangeSpec := { name := "crcMarks", fn := fun _ => fun
  | [d] => { results := [.lit (.bool false)], args := [d] }
  | _ => none }
def CrcMarksWrongFalsely : Prop := crcMarksRow.holds Try.pinned (OpenSpec.ofChange crcMarksWrong)

/-- 'incipitlaw02.VarintTexts': WHATEVER THE INPUT: true; the input reads as it did. -/
def varintTextsSpec : ChangeSpec := { name := "varintTexts", fn := fun _ => fun
  | [d1, d2] => { results := [.lit (.bool true)], args := [d1, d2] }
  | _ => none }
def varintTextsRow : OpenClaim := { program := "ythnkebihpmggbaa", sum := "2c1a7bcfc083d99eb91d1125374f0455b158ec7601da9e9206f9d961c719b3a4", func := "incipit/incipitlaw02.VarintTexts", spec := "varintTexts", apart := false }
def VarintTextsSaid : Prop := varintTextsRow.holds Try.pinned (OpenSpec.ofChange varintTextsSpec)

/-- ITS FALSE NEIGHBOUR: 'it returns false'. Refute it at one input. -/
def varintTextsWrong : ChangeSpec := { name := "varintTexts", fn := fun _ => fun
  | [d1, d2] => { results := [.lit (.bool false)], args := [d1, d2] }
  | _ => none }
def VarintTextsWrongFalsely : Prop := varintTextsRow.holds Try.pinned (OpenSpec.ofChange varintTextsWrong)

/-- 'incipitlaw02.VarintLists': WHATEVER THE INPUT: true; the input reads as it did. -/
def varintListsSpec : ChangeSpec := { name := "varintLists", fn := fun _ => fun
  | [d1, d2] => { results := [.lit (.bool true)], args := [d1, d2] }
  | _ => none }
def varintListsRow : OpenClaim := { program := "ythnkebihpmggbaa", sum := "2c1a7bcfc083d99eb91d1125374f0455b158ec7601da9e9206f9d961c719b3a4", func := "incipit/incipitlaw02.VarintLists", spec := "varintLists", apart := false }
def VarintListsSaid : Prop := varintListsRow.holds Try.pinned (OpenSpec.ofChange varintListsSpec)

/-- ITS FALSE NEIGHBOUR: 'it returns false'. Refute it at one input. -/
def varintListsWrong : ChangeSpec := { name := "varintLists", fn := fun _ => fun
  | [d1, d2] => { results := [.lit (.bool false)], args := [d1, d2] }
  | _ => none }
def VarintListsWrongFalsely : Prop := varintListsRow.holds Try.pinned (OpenSpec.ofChange varintListsWrong)

/-- 'incipitlaw02.VarintFixed': WHATEVER THE INPUT: true; the input reads as it did. -/
def varintFixedSpec : ChangeSpec := { name := "varintFixed", fn := fun _ => fun
  | [d1, d2, d3] => { results := [.lit (.bool true)], args := [d1, d2, d3] }
  | _ => none }
def varintFixedRow : OpenClaim := { program := "ythnkebihpmggbaa", sum := "2c1a7bcfc083d99eb91d1125374f0455b158ec7601da9e9206f9d961c719b3a4", func := "incipit/incipitlaw02.VarintFixed", spec := "varintFixed", apart := false }
def VarintFixedSaid : Prop := varintFixedRow.holds Try.pinned (OpenSpec.ofChange varintFixedSpec)

/-- ITS FALSE NEIGHBOUR: 'it returns false'. Refute it at one input. -/
def varintFixedWrong : ChangeSpec := { name := "varintFixed", fn := fun _ => fun
  | [d1, d2, d3] => { results := [.lit (.bool false)], args := [d1, d2, d3] }
  | _ => none }
def VarintFixedWrongFalsely : Prop := varintFixedRow.holds Try.pinned (OpenSpec.ofChange varintFixedWrong)

/-- 'incipitlaw01.CrcTurns': WHATEVER THE INPUT: true; the input reads as it did. -/
def crcTurnsSpec : ChangeSpec := { name := "crcTurns", fn := fun _ => fun
  | [d1, d2, d3] => { results := [.lit (.bool true)], args := [d1, d2, d3] }
  | _ => none }
def crcTurnsRow : OpenClaim := { program := "ythnkebihpmggbaa", sum := "2c1a7bcfc083d99eb91d1125374f0455b158ec7601da9e9206f9d961c719b3a4", func := "incipit/incipitlaw01.CrcTurns", spec := "crcTurns", apart := false }
def CrcTurnsSaid : Prop := crcTurnsRow.holds Try.pinned (OpenSpec.ofChange crcTurnsSpec)

/-- ITS FALSE NEIGHBOUR: 'it returns false'. Refute it at one input. -/
def crcTurnsWrong : ChangeSpec := { name := "crcTurns", fn := fun _ => fun
  | [d1, d2, d3] => { results := [.lit (.bool false)], args := [d1, d2, d3] }
  | _ => none }
def CrcTurnsWrongFalsely : Prop := crcTurnsRow.holds Try.pinned (OpenSpec.ofChange crcTurnsWrong)

/- THE SECOND FORM. 'bulk': how many values and letters a reading holds, each counted each time it is reached (what is shared counts as often as it is met; a slice's spare places count too). A statement '..UptoSaid' is the law's where the arguments, and the package variables that the reading takes, are together of bulk at most 1048576: NARROWER than '..Said'. Prove '..Said' where nothing that the law and all that it calls make is longer than what came in: it says more and counts as full. Else prove '..UptoSaid'. A law counts once. -/
mutual
def uptoBulk {H : Type} : DataW H → Nat
  | .lit (.string bytes) => bytes.length + 1
  | .lit _ => 1
  | .nil => 1
  | .ptr d => uptoBulk d + 1
  | .slice elems spare => uptoBulkAll elems + uptoBulkAll spare + 1
  | .agg parts => uptoBulkAll parts + 1
  | .iface _ d => uptoBulk d + 1
  | .map entries => uptoBulkEntries entries + 1
  | .held _ => 1
def uptoBulkAll {H : Type} : List (DataW H) → Nat
  | [] => 0
  | d :: r => uptoBulk d + uptoBulkAll r
def uptoBulkEntries {H : Type} : List (Lit × DataW H) → Nat
  | [] => 0
  | x :: r => uptoBulkEntry x + uptoBulkEntries r
def uptoBulkEntry {H : Type} : Lit × DataW H → Nat
  | (.string bytes, d) => bytes.length + uptoBulk d + 1
  | (_, d) => uptoBulk d + 1
 end
def uptoSmall : (H : Type) → List (DataW H) → Bool := fun _ ds => decide (uptoBulkAll ds ≤ 1048576)
def OpenSpec.upto (s : _root_.Go.ChangeSpec) : _root_.Go.OpenSpec := { _root_.Go.OpenSpec.ofChange s with cond := some uptoSmall }

/-- 'incipitlaw01.CrcSums', WHERE WHAT IT READS IS OF BULK AT MOST 1048576: true; the input reads as it did. -/
def crcSumsUptoRow : OpenClaim := { program := "ythnkebihpmggbaa", sum := "2c1a7bcfc083d99eb91d1125374f0455b158ec7601da9e9206f9d961c719b3a4", func := "incipit/incipitlaw01.CrcSums", spec := "crcSums", apart := false, narrowed := true }
def CrcSumsUptoSaid : Prop := crcSumsUptoRow.holds Try.pinned (OpenSpec.upto crcSumsSpec)

/-- 'incipitlaw01.CrcRegister', WHERE WHAT IT READS IS OF BULK AT MOST 1048576: true; the input reads as it did. -/
def crcRegisterUptoRow : OpenClaim := { program := "ythnkebihpmggbaa", sum := "2c1a7bcfc083d99eb91d1125374f0455b158ec7601da9e9206f9d961c719b3a4", func := "incipit/incipitlaw01.CrcRegister", spec := "crcRegister", apart := false, narrowed := true }
def CrcRegisterUptoSaid : Prop := crcRegisterUptoRow.holds Try.pinned (OpenSpec.upto crcRegisterSpec)

/-- 'incipitlaw02.VarintPuts', WHERE WHAT IT READS IS OF BULK AT MOST 1048576: true; the input reads as it did. -/
def varintPutsUptoRow : OpenClaim := { program := "ythnkebihpmggbaa", sum := "2c1a7bcfc083d99eb91d1125374f0455b158ec7601da9e9206f9d961c719b3a4", func := "incipit/incipitlaw02.VarintPuts", spec := "varintPuts", apart := false, narrowed := true }
def VarintPutsUptoSaid : Prop := varintPutsUptoRow.holds Try.pinned (OpenSpec.upto varintPutsSpec)

/-- 'incipitlaw01.CrcMarks', WHERE WHAT IT READS IS OF BULK AT MOST 1048576: true; the input reads as it did. -/
def crcMarksUptoRow : OpenClaim := { program := "ythnkebihpmggbaa", sum := "2c1a7bcfc083d99eb91d1125374f0455b158ec7601da9e9206f9d961c719b3a4", func := "incipit/incipitlaw01.CrcMarks", spec := "crcMarks", apart := false, narrowed := true }
def CrcMarksUptoSaid : Prop := crcMarksUptoRow.holds Try.pinned (OpenSpec.upto crcMarksSpec)

/-- 'incipitlaw02.VarintTexts', WHERE WHAT IT READS IS OF BULK AT MOST 1048576: true; the input reads as it did. -/
def varintTextsUptoRow : OpenClaim := { program := "ythnkebihpmggbaa", sum := "2c1a7bcfc083d99eb91d1125374f0455b158ec7601da9e9206f9d961c719b3a4", func := "incipit/incipitlaw02.VarintTexts", spec := "varintTexts", apart := false, narrowed := true }
def VarintTextsUptoSaid : Prop := varintTextsUptoRow.holds Try.pinned (OpenSpec.upto varintTextsSpec)

/-- 'incipitlaw02.VarintLists', WHERE WHAT IT READS IS OF BULK AT MOST 1048576: true; the input reads as it did. -/
def varintListsUptoRow : OpenClaim := { program := "ythnkebihpmggbaa", sum := "2c1a7bcfc083d99eb91d1125374f0455b158ec7601da9e9206f9d961c719b3a4", func := "incipit/incipitlaw02.VarintLists", spec := "varintLists", apart := false, narrowed := true }
def VarintListsUptoSaid : Prop := varintListsUptoRow.holds Try.pinned (OpenSpec.upto varintListsSpec)

/-- 'incipitlaw02.VarintFixed', WHERE WHAT IT READS IS OF BULK AT MOST 1048576: true; the input reads as it did. -/
def varintFixedUptoRow : OpenClaim := { program := "ythnkebihpmggbaa", sum := "2c1a7bcfc083d99eb91d1125374f0455b158ec7601da9e9206f9d961c719b3a4", func := "incipit/incipitlaw02.VarintFixed", spec := "varintFixed", apart := false, narrowed := true }
def VarintFixedUptoSaid : Prop := varintFixedUptoRow.holds Try.pinned (OpenSpec.upto varintFixedSpec)

/-- 'incipitlaw01.CrcTurns', WHERE WHAT IT READS IS OF BULK AT MOST 1048576: true; the input reads as it did. -/
def crcTurnsUptoRow : OpenClaim := { program := "ythnkebihpmggbaa", sum := "2c1a7bcfc083d99eb91d1125374f0455b158ec7601da9e9206f9d961c719b3a4", func := "incipit/incipitlaw01.CrcTurns", spec := "crcTurns", apart := false, narrowed := true }
def CrcTurnsUptoSaid : Prop := crcTurnsUptoRow.holds Try.pinned (OpenSpec.upto crcTurnsSpec)

end Rows
end Go.Proofs.Ythnkebihpmggbaa
