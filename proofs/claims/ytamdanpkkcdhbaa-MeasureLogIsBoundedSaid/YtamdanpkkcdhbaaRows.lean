/-
  No cell of these rows narrows 'for every input' (looked for: loops, veiled, ifaces, maps, wideKeys, modest, calm, conditions, laid).
  DERIVED. THE GIVEN ROWS OF THIS SEAT. 10 by the template 'for every input the law returns true; each argument reads behind the call as it read before'; 0 by the template 'total and deterministic' (their statements: YtamdanpkkcdhbaaTotals.lean).
  GIVEN WITH THE SEED: the statements are not yours to turn. If you find one false, say at which input.
  Laid BY PROGRAM, IN A SANDBOX (cutbox-rows.mjs): the forced cells as the released guide's own fill.sh prints them over the translation bdc7b63ee6c11d94… (all of the seat's roots in one cut). By AI agents, Wed Nov 11 2026. No macro, syntax, notation, axiom, sorry.
-/
import Derived.Test.YtamdanpkkcdhbaaChecked
import GoSem.Claim
import GoSem.ClaimJoined
import GoSem.ClaimMapViews
import Derived.JoinedTies
import Derived.KernelRfl
namespace Go.Proofs.Ytamdanpkkcdhbaa
/- THE CELL 'sum', in the pinned program and in every row, IS THE sha256 OF THE DUMP (.gsa) THAT YtamdanpkkcdhbaaProg.lean LOADS. Nothing in Lean hashes anything: it is a label: what it is worth is what the hold of that sum in a sandbox is worth. -/
noncomputable def Try.pinned : Pinned := { name := "ytamdanpkkcdhbaa", sum := "bdc7b63ee6c11d940c965621b52a899fed939657f208a61081a4a4e7946dd232", checked := Try.checked }
namespace Rows
def none {H : Type} : Left H := { results := [], args := [] }

/-- 'platformfwlaw42.MeasureSumAgrees': WHATEVER THE INPUT: true; the input reads as it did. -/
def measureSumAgreesSpec : ChangeSpec := { name := "measureSumAgrees", fn := fun _ => fun
  | [d1, d2, d3] => { results := [.lit (.bool true)], args := [d1, d2, d3] }
  | _ => none }
def measureSumAgreesRow : OpenClaim := { program := "ytamdanpkkcdhbaa", sum := "bdc7b63ee6c11d940c965621b52a899fed939657f208a61081a4a4e7946dd232", func := "platformfw/platformfwlaw42.MeasureSumAgrees", spec := "measureSumAgrees", inPlace := ["internal/abi.NoEscape", "internal/bytealg.MakeNoZero"], apart := false }
def MeasureSumAgreesSaid : Prop := measureSumAgreesRow.holds Try.pinned (OpenSpec.ofChange measureSumAgreesSpec)

/-- ITS FALSE NEIGHBOUR: 'it returns false'. Refute it at one input. -/
def measureSumAgreesWrong : ChangeSpec := { name := "measureSumAgrees", fn := fun _ => fun
  | [d1, d2, d3] => { results := [.lit (.bool false)], args := [d1, d2, d3] }
  | _ => none }
def MeasureSumAgreesWrongFalsely : Prop := measureSumAgreesRow.holds Try.pinned (OpenSpec.ofChange measureSumAgreesWrong)

/-- 'platformfwlaw42.MeasureMACAgrees': WHATEVER THE INPUT: true; the input reads as it did. -/
def measureMACAgreesSpec : ChangeSpec := { name := "measureMACAgrees", fn := fun _ => fun
  | [d1, d2, d3, d4] => { results := [.lit (.bool true)], args := [d1, d2, d3, d4] }
  | _ => none }
def measureMACAgreesRow : OpenClaim := { program := "ytamdanpkkcdhbaa", sum := "bdc7b63ee6c11d940c965621b52a899fed939657f208a61081a4a4e7946dd232", func := "platformfw/platformfwlaw42.MeasureMACAgrees", spec := "measureMACAgrees", inPlace := ["internal/abi.NoEscape", "internal/bytealg.MakeNoZero"], apart := false }
def MeasureMACAgreesSaid : Prop := measureMACAgreesRow.holds Try.pinned (OpenSpec.ofChange measureMACAgreesSpec)

/-- ITS FALSE NEIGHBOUR: 'it returns false'. Refute it at one input. -/
def measureMACAgreesWrong : ChangeSpec := { name := "measureMACAgrees", fn := fun _ => fun
  | [d1, d2, d3, d4] => { results := [.lit (.bool false)], args := [d1, d2, d3, d4] }
  | _ => none }
def MeasureMACAgreesWrongFalsely : Prop := measureMACAgreesRow.holds Try.pinned (OpenSpec.ofChange measureMACAgreesWrong)

/-- 'platformfwlaw42.MeasureLogAgrees': WHATEVER THE INPUT: true; the input reads as it did. -/
def measureLogAgreesSpec : ChangeSpec := { name := "measureLogAgrees", fn := fun _ => fun
  | [d] => { results := [.lit (.bool true)], args := [d] }
  | _ => none }
def measureLogAgreesRow : OpenClaim := { program := "ytamdanpkkcdhbaa", sum := "bdc7b63ee6c11d940c965621b52a899fed939657f208a61081a4a4e7946dd232", func := "platformfw/platformfwlaw42.MeasureLogAgrees", spec := "measureLogAgrees", inPlace := ["internal/abi.NoEscape", "internal/bytealg.MakeNoZero"], apart := false }
def MeasureLogAgreesSaid : Prop := measureLogAgreesRow.holds Try.pinned (OpenSpec.ofChange measureLogAgreesSpec)

/-- ITS FALSE NEIGHBOUR: 'it returns false'. Refute it at one input. -/
def measureLogAgreesWrong : ChangeSpec := { name := "measureLogAgrees", fn := fun _ => fun
  | [d] => { results := [.lit (.bool false)], args := [d] }
  | _ => none }
def MeasureLogAgreesWrongFalsely : Prop := measureLogAgreesRow.holds Try.pinned (OpenSpec.ofChange measureLogAgreesWrong)

/-- 'platformfwlaw42.MeasureReplayAgrees': WHATEVER THE INPUT: true; the input reads as it did. -/
def measureReplayAgreesSpec : ChangeSpec := { name := "measureReplayAgrees", fn := fun _ => fun
  | [d1, d2, d3, d4] => { results := [.lit (.bool true)], args := [d1, d2, d3, d4] }
  | _ => none }
def measureReplayAgreesRow : OpenClaim := { program := "ytamdanpkkcdhbaa", sum := "bdc7b63ee6c11d940c965621b52a899fed939657f208a61081a4a4e7946dd232", func := "platformfw/platformfwlaw42.MeasureReplayAgrees", spec := "measureReplayAgrees", inPlace := ["internal/abi.NoEscape", "internal/bytealg.MakeNoZero"], apart := false }
def MeasureReplayAgreesSaid : Prop := measureReplayAgreesRow.holds Try.pinned (OpenSpec.ofChange measureReplayAgreesSpec)

/-- ITS FALSE NEIGHBOUR: 'it returns false'. Refute it at one input. -/
def measureReplayAgreesWrong : ChangeSpec := { name := "measureReplayAgrees", fn := fun _ => fun
  | [d1, d2, d3, d4] => { results := [.lit (.bool false)], args := [d1, d2, d3, d4] }
  | _ => none }
def MeasureReplayAgreesWrongFalsely : Prop := measureReplayAgreesRow.holds Try.pinned (OpenSpec.ofChange measureReplayAgreesWrong)

/-- 'platformfwlaw42.MeasureRegistersAreSeparate': WHATEVER THE INPUT: true; the input reads as it did. -/
def measureRegistersAreSeparateSpec : ChangeSpec := { name := "measureRegistersAreSeparate", fn := fun _ => fun
  | [d] => { results := [.lit (.bool true)], args := [d] }
  | _ => none }
def measureRegistersAreSeparateRow : OpenClaim := { program := "ytamdanpkkcdhbaa", sum := "bdc7b63ee6c11d940c965621b52a899fed939657f208a61081a4a4e7946dd232", func := "platformfw/platformfwlaw42.MeasureRegistersAreSeparate", spec := "measureRegistersAreSeparate", inPlace := ["internal/abi.NoEscape", "internal/bytealg.MakeNoZero"], apart := false }
def MeasureRegistersAreSeparateSaid : Prop := measureRegistersAreSeparateRow.holds Try.pinned (OpenSpec.ofChange measureRegistersAreSeparateSpec)

/-- ITS FALSE NEIGHBOUR: 'it returns false'. Refute it at one input. -/
def measureRegistersAreSeparateWrong : ChangeSpec := { name := "measureRegistersAreSeparate", fn := fun _ => fun
  | [d] => { results := [.lit (.bool false)], args := [d] }
  | _ => none }
def MeasureRegistersAreSeparateWrongFalsely : Prop := measureRegistersAreSeparateRow.holds Try.pinned (OpenSpec.ofChange measureRegistersAreSeparateWrong)

/-- 'platformfwlaw42.MeasureLogIsBounded': WHATEVER THE INPUT: true; the input reads as it did. -/
def measureLogIsBoundedSpec : ChangeSpec := { name := "measureLogIsBounded", fn := fun _ => fun
  | [d] => { results := [.lit (.bool true)], args := [d] }
  | _ => none }
def measureLogIsBoundedRow : OpenClaim := { program := "ytamdanpkkcdhbaa", sum := "bdc7b63ee6c11d940c965621b52a899fed939657f208a61081a4a4e7946dd232", func := "platformfw/platformfwlaw42.MeasureLogIsBounded", spec := "measureLogIsBounded", inPlace := ["internal/abi.NoEscape", "internal/bytealg.MakeNoZero"], apart := false }
def MeasureLogIsBoundedSaid : Prop := measureLogIsBoundedRow.holds Try.pinned (OpenSpec.ofChange measureLogIsBoundedSpec)

/-- ITS FALSE NEIGHBOUR: 'it returns false'. Refute it at one input. -/
def measureLogIsBoundedWrong : ChangeSpec := { name := "measureLogIsBounded", fn := fun _ => fun
  | [d] => { results := [.lit (.bool false)], args := [d] }
  | _ => none }
def MeasureLogIsBoundedWrongFalsely : Prop := measureLogIsBoundedRow.holds Try.pinned (OpenSpec.ofChange measureLogIsBoundedWrong)

/-- 'platformfwlaw42.MeasureExtendsPrefix': WHATEVER THE INPUT: true; the input reads as it did. -/
def measureExtendsPrefixSpec : ChangeSpec := { name := "measureExtendsPrefix", fn := fun _ => fun
  | [d1, d2] => { results := [.lit (.bool true)], args := [d1, d2] }
  | _ => none }
def measureExtendsPrefixRow : OpenClaim := { program := "ytamdanpkkcdhbaa", sum := "bdc7b63ee6c11d940c965621b52a899fed939657f208a61081a4a4e7946dd232", func := "platformfw/platformfwlaw42.MeasureExtendsPrefix", spec := "measureExtendsPrefix", inPlace := ["internal/abi.NoEscape", "internal/bytealg.MakeNoZero"], apart := false }
def MeasureExtendsPrefixSaid : Prop := measureExtendsPrefixRow.holds Try.pinned (OpenSpec.ofChange measureExtendsPrefixSpec)

/-- ITS FALSE NEIGHBOUR: 'it returns false'. Refute it at one input. -/
def measureExtendsPrefixWrong : ChangeSpec := { name := "measureExtendsPrefix", fn := fun _ => fun
  | [d1, d2] => { results := [.lit (.bool false)], args := [d1, d2] }
  | _ => none }
def MeasureExtendsPrefixWrongFalsely : Prop := measureExtendsPrefixRow.holds Try.pinned (OpenSpec.ofChange measureExtendsPrefixWrong)

/-- 'platformfwlaw42.MeasureReplays': WHATEVER THE INPUT: true; the input reads as it did. -/
def measureReplaysSpec : ChangeSpec := { name := "measureReplays", fn := fun _ => fun
  | [d1, d2] => { results := [.lit (.bool true)], args := [d1, d2] }
  | _ => none }
def measureReplaysRow : OpenClaim := { program := "ytamdanpkkcdhbaa", sum := "bdc7b63ee6c11d940c965621b52a899fed939657f208a61081a4a4e7946dd232", func := "platformfw/platformfwlaw42.MeasureReplays", spec := "measureReplays", inPlace := ["internal/abi.NoEscape", "internal/bytealg.MakeNoZero"], apart := false }
def MeasureReplaysSaid : Prop := measureReplaysRow.holds Try.pinned (OpenSpec.ofChange measureReplaysSpec)

/-- ITS FALSE NEIGHBOUR: 'it returns false'. Refute it at one input. -/
def measureReplaysWrong : ChangeSpec := { name := "measureReplays", fn := fun _ => fun
  | [d1, d2] => { results := [.lit (.bool false)], args := [d1, d2] }
  | _ => none }
def MeasureReplaysWrongFalsely : Prop := measureReplaysRow.holds Try.pinned (OpenSpec.ofChange measureReplaysWrong)

/-- 'platformfwlaw42.MeasureVerifyAgrees': WHATEVER THE INPUT: true; the input reads as it did. -/
def measureVerifyAgreesSpec : ChangeSpec := { name := "measureVerifyAgrees", fn := fun _ => fun
  | [d1, d2, d3, d4, d5, d6, d7] => { results := [.lit (.bool true)], args := [d1, d2, d3, d4, d5, d6, d7] }
  | _ => none }
def measureVerifyAgreesRow : OpenClaim := { program := "ytamdanpkkcdhbaa", sum := "bdc7b63ee6c11d940c965621b52a899fed939657f208a61081a4a4e7946dd232", func := "platformfw/platformfwlaw42.MeasureVerifyAgrees", spec := "measureVerifyAgrees", inPlace := ["internal/abi.NoEscape", "internal/bytealg.MakeNoZero"], apart := false }
def MeasureVerifyAgreesSaid : Prop := measureVerifyAgreesRow.holds Try.pinned (OpenSpec.ofChange measureVerifyAgreesSpec)

/-- ITS FALSE NEIGHBOUR: 'it returns false'. Refute it at one input. -/
def measureVerifyAgreesWrong : ChangeSpec := { name := "measureVerifyAgrees", fn := fun _ => fun
  | [d1, d2, d3, d4, d5, d6, d7] => { results := [.lit (.bool false)], args := [d1, d2, d3, d4, d5, d6, d7] }
  | _ => none }
def MeasureVerifyAgreesWrongFalsely : Prop := measureVerifyAgreesRow.holds Try.pinned (OpenSpec.ofChange measureVerifyAgreesWrong)

/-- 'platformfwlaw42.MeasureQuotes': WHATEVER THE INPUT: true; the input reads as it did. -/
def measureQuotesSpec : ChangeSpec := { name := "measureQuotes", fn := fun _ => fun
  | [d1, d2, d3, d4] => { results := [.lit (.bool true)], args := [d1, d2, d3, d4] }
  | _ => none }
def measureQuotesRow : OpenClaim := { program := "ytamdanpkkcdhbaa", sum := "bdc7b63ee6c11d940c965621b52a899fed939657f208a61081a4a4e7946dd232", func := "platformfw/platformfwlaw42.MeasureQuotes", spec := "measureQuotes", inPlace := ["internal/abi.NoEscape", "internal/bytealg.MakeNoZero"], apart := false }
def MeasureQuotesSaid : Prop := measureQuotesRow.holds Try.pinned (OpenSpec.ofChange measureQuotesSpec)

/-- ITS FALSE NEIGHBOUR: 'it returns false'. Refute it at one input. -/
def measureQuotesWrong : ChangeSpec := { name := "measureQuotes", fn := fun _ => fun
  | [d1, d2, d3, d4] => { results := [.lit (.bool false)], args := [d1, d2, d3, d4] }
  | _ => none }
def MeasureQuotesWrongFalsely : Prop := measureQuotesRow.holds Try.pinned (OpenSpec.ofChange measureQuotesWrong)

/- THE SECOND FORM. 'bulk': how many values and letters a reading holds, each counted each time it is reached (what is shared counts as often as it is met; a slice's spare places count too). A statement '..UptoSaid' is the law's where the arguments, and the package variables that the reading takes, are together of bulk at most 1048576: NARROWER than '..Said'. Prove '..Said' where nothing that the law and all that it calls make is longer than what came in: it says more and counts as full. Else prove '..UptoSaid'. A law counts once. -/
mutual
def uptoBulk {H : Type} : DataW H → Nat
  | .lit (.string bytes) => bytes.length + 1
  | .lit _ => 1
  | .nil => 1
  | .ptr d => uptoBulk d + 1
  | .slice elems spare => uptoBulkAll elems + uptoBulkAll spare + 1
  | .agg parts => uptoBulkAll parts + 1
  | .iface _ d => uptoBulk d + 1
  | .map entries => uptoBulkEntries entries + 1
  | .held _ => 1
def uptoBulkAll {H : Type} : List (DataW H) → Nat
  | [] => 0
  | d :: r => uptoBulk d + uptoBulkAll r
def uptoBulkEntries {H : Type} : List (Lit × DataW H) → Nat
  | [] => 0
  | x :: r => uptoBulkEntry x + uptoBulkEntries r
def uptoBulkEntry {H : Type} : Lit × DataW H → Nat
  | (.string bytes, d) => bytes.length + uptoBulk d + 1
  | (_, d) => uptoBulk d + 1
 end
def uptoSmall : (H : Type) → List (DataW H) → Bool := fun _ ds => decide (uptoBulkAll ds ≤ 1048576)
def OpenSpec.upto (s : _root_.Go.ChangeSpec) : _root_.Go.OpenSpec := { _root_.Go.OpenSpec.ofChange s with cond := some uptoSmall }

/-- 'platformfwlaw42.MeasureSumAgrees', WHERE WHAT IT READS IS OF BULK AT MOST 1048576: true; the input reads as it did. -/
def measureSumAgreesUptoRow : OpenClaim := { program := "ytamdanpkkcdhbaa", sum := "bdc7b63ee6c11d940c965621b52a899fed939657f208a61081a4a4e7946dd232", func := "platformfw/platformfwlaw42.MeasureSumAgrees", spec := "measureSumAgrees", inPlace := ["internal/abi.NoEscape", "internal/bytealg.MakeNoZero"], apart := false, narrowed := true }
def MeasureSumAgreesUptoSaid : Prop := measureSumAgreesUptoRow.holds Try.pinned (OpenSpec.upto measureSumAgreesSpec)

/-- 'platformfwlaw42.MeasureMACAgrees', WHERE WHAT IT READS IS OF BULK AT MOST 1048576: true; the input reads as it did. -/
def measureMACAgreesUptoRow : OpenClaim := { program := "ytamdanpkkcdhbaa", sum := "bdc7b63ee6c11d940c965621b52a899fed939657f208a61081a4a4e7946dd232", func := "platformfw/platformfwlaw42.MeasureMACAgrees", spec := "measureMACAgrees", inPlace := ["internal/abi.NoEscape", "internal/bytealg.MakeNoZero"], apart := false, narrowed := true }
def MeasureMACAgreesUptoSaid : Prop := measureMACAgreesUptoRow.holds Try.pinned (OpenSpec.upto measureMACAgreesSpec)

/-- 'platformfwlaw42.MeasureLogAgrees', WHERE WHAT IT READS IS OF BULK AT MOST 1048576: true; the input reads as it did. -/
def measureLogAgreesUptoRow : OpenClaim := { program := "ytamdanpkkcdhbaa", sum := "bdc7b63ee6c11d940c965621b52a899fed939657f208a61081a4a4e7946dd232", func := "platformfw/platformfwlaw42.MeasureLogAgrees", spec := "measureLogAgrees", inPlace := ["internal/abi.NoEscape", "internal/bytealg.MakeNoZero"], apart := false, narrowed := true }
def MeasureLogAgreesUptoSaid : Prop := measureLogAgreesUptoRow.holds Try.pinned (OpenSpec.upto measureLogAgreesSpec)

/-- 'platformfwlaw42.MeasureReplayAgrees', WHERE WHAT IT READS IS OF BULK AT MOST 1048576: true; the input reads as it did. -/
def measureReplayAgreesUptoRow : OpenClaim := { program := "ytamdanpkkcdhbaa", sum := "bdc7b63ee6c11d940c965621b52a899fed939657f208a61081a4a4e7946dd232", func := "platformfw/platformfwlaw42.MeasureReplayAgrees", spec := "measureReplayAgrees", inPlace := ["internal/abi.NoEscape", "internal/bytealg.MakeNoZero"], apart := false, narrowed := true }
def MeasureReplayAgreesUptoSaid : Prop := measureReplayAgreesUptoRow.holds Try.pinned (OpenSpec.upto measureReplayAgreesSpec)

/-- 'platformfwlaw42.MeasureRegistersAreSeparate', WHERE WHAT IT READS IS OF BULK AT MOST 1048576: true; the input reads as it did. -/
def measureRegistersAreSeparateUptoRow : OpenClaim := { program := "ytamdanpkkcdhbaa", sum := "bdc7b63ee6c11d940c965621b52a899fed939657f208a61081a4a4e7946dd232", func := "platformfw/platformfwlaw42.MeasureRegistersAreSeparate", spec := "measureRegistersAreSeparate", inPlace := ["internal/abi.NoEscape", "internal/bytealg.MakeNoZero"], apart := false, narrowed := true }
def MeasureRegistersAreSeparateUptoSaid : Prop := measureRegistersAreSeparateUptoRow.holds Try.pinned (OpenSpec.upto measureRegistersAreSeparateSpec)

/-- 'platformfwlaw42.MeasureLogIsBounded', WHERE WHAT IT READS IS OF BULK AT MOST 1048576: true; the input reads as it did. -/
def measureLogIsBoundedUptoRow : OpenClaim := { program := "ytamdanpkkcdhbaa", sum := "bdc7b63ee6c11d940c965621b52a899fed939657f208a61081a4a4e7946dd232", func := "platformfw/platformfwlaw42.MeasureLogIsBounded", spec := "measureLogIsBounded", inPlace := ["internal/abi.NoEscape", "internal/bytealg.MakeNoZero"], apart := false, narrowed := true }
def MeasureLogIsBoundedUptoSaid : Prop := measureLogIsBoundedUptoRow.holds Try.pinned (OpenSpec.upto measureLogIsBoundedSpec)

/-- 'platformfwlaw42.MeasureExtendsPrefix', WHERE WHAT IT READS IS OF BULK AT MOST 1048576: true; the input reads as it did. -/
def measureExtendsPrefixUptoRow : OpenClaim := { program := "ytamdanpkkcdhbaa", sum := "bdc7b63ee6c11d940c965621b52a899fed939657f208a61081a4a4e7946dd232", func := "platformfw/platformfwlaw42.MeasureExtendsPrefix", spec := "measureExtendsPrefix", inPlace := ["internal/abi.NoEscape", "internal/bytealg.MakeNoZero"], apart := false, narrowed := true }
def MeasureExtendsPrefixUptoSaid : Prop := measureExtendsPrefixUptoRow.holds Try.pinned (OpenSpec.upto measureExtendsPrefixSpec)

/-- 'platformfwlaw42.MeasureReplays', WHERE WHAT IT READS IS OF BULK AT MOST 1048576: true; the input reads as it did. -/
def measureReplaysUptoRow : OpenClaim := { program := "ytamdanpkkcdhbaa", sum := "bdc7b63ee6c11d940c965621b52a899fed939657f208a61081a4a4e7946dd232", func := "platformfw/platformfwlaw42.MeasureReplays", spec := "measureReplays", inPlace := ["internal/abi.NoEscape", "internal/bytealg.MakeNoZero"], apart := false, narrowed := true }
def MeasureReplaysUptoSaid : Prop := measureReplaysUptoRow.holds Try.pinned (OpenSpec.upto measureReplaysSpec)

/-- 'platformfwlaw42.MeasureVerifyAgrees', WHERE WHAT IT READS IS OF BULK AT MOST 1048576: true; the input reads as it did. -/
def measureVerifyAgreesUptoRow : OpenClaim := { program := "ytamdanpkkcdhbaa", sum := "bdc7b63ee6c11d940c965621b52a899fed939657f208a61081a4a4e7946dd232", func := "platformfw/platformfwlaw42.MeasureVerifyAgrees", spec := "measureVerifyAgrees", inPlace := ["internal/abi.NoEscape", "internal/bytealg.MakeNoZero"], apart := false, narrowed := true }
def MeasureVerifyAgreesUptoSaid : Prop := measureVerifyAgreesUptoRow.holds Try.pinned (OpenSpec.upto measureVerifyAgreesSpec)

/-- 'platformfwlaw42.MeasureQuotes', WHERE WHAT IT READS IS OF BULK AT MOST 1048576: true; the input reads as it did. -/
def measureQuotesUptoRow : OpenClaim := { program := "ytamdanpkkcdhbaa", sum := "bdc7b63ee6c11d940c965621b52a899fed939657f208a61081a4a4e7946dd232", func := "platformfw/platformfwlaw42.MeasureQuotes", spec := "measureQuotes", inPlace := ["internal/abi.NoEscape", "internal/bytealg.MakeNoZero"], apart := false, narrowed := true }
def MeasureQuotesUptoSaid : Prop := measureQuotesUptoRow.holds Try.pinned (OpenSpec.upto measureQuotesSpec)

end Rows
end Go.Proofs.Ytamdanpkkcdhbaa
