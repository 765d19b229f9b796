/-
  No cell of these rows narrows 'for every input' (looked for: loops, veiled, ifaces, maps, wideKeys, modest, calm, conditions, laid).
  DERIVED. THE GIVEN ROWS OF THIS SEAT. 8 by the template 'for every input the law returns true; each argument reads behind the call as it read before'; 0 by the template 'total and deterministic' (their statements: YtpdjnjkliioneaaTotals.lean).
  GIVEN WITH THE SEED: the statements are not yours to turn. If you find one false, say at which input.
  Laid BY PROGRAM, IN A SANDBOX (cutbox-rows.mjs): the forced cells as the released guide's own fill.sh prints them over the translation 0e28a39d7ccf449a… (all of the seat's roots in one cut). By AI agents, Wed Nov 11 2026. No macro, syntax, notation, axiom, sorry.
-/
import Derived.Test.YtpdjnjkliioneaaChecked
import GoSem.Claim
import GoSem.ClaimJoined
import GoSem.ClaimMapViews
import Derived.JoinedTies
import Derived.KernelRfl
namespace Go.Proofs.Ytpdjnjkliioneaa
/- THE CELL 'sum', in the pinned program and in every row, IS THE sha256 OF THE DUMP (.gsa) THAT YtpdjnjkliioneaaProg.lean LOADS. Nothing in Lean hashes anything: it is a label: what it is worth is what the hold of that sum in a sandbox is worth. -/
noncomputable def Try.pinned : Pinned := { name := "ytpdjnjkliioneaa", sum := "0e28a39d7ccf449a6fd77c6edbd4e4ef71e1b5dd2939efcec8f5eb17be98fcb1", checked := Try.checked }
namespace Rows
def none {H : Type} : Left H := { results := [], args := [] }

/-- 'quittancelaw01.NumBack': WHATEVER THE INPUT: true; the input reads as it did. -/
def numBackSpec : ChangeSpec := { name := "numBack", fn := fun _ => fun
  | [d1, d2, d3] => { results := [.lit (.bool true)], args := [d1, d2, d3] }
  | _ => none }
def numBackRow : OpenClaim := { program := "ytpdjnjkliioneaa", sum := "0e28a39d7ccf449a6fd77c6edbd4e4ef71e1b5dd2939efcec8f5eb17be98fcb1", func := "quittance/quittancelaw01.NumBack", spec := "numBack", inPlace := ["math/bits.Add64", "math/bits.Sub64"], named := ["math/bits.divideError", "math/bits.overflowError"], apart := false }
def NumBackSaid : Prop := numBackRow.holds Try.pinned (OpenSpec.ofChange numBackSpec)

/-- ITS FALSE NEIGHBOUR: 'it returns false'. Refute it at one input. -/
def numBackWrong : ChangeSpec := { name := "numBack", fn := fun _ => fun
  | [d1, d2, d3] => { results := [.lit (.bool false)], args := [d1, d2, d3] }
  | _ => none }
def NumBackWrongFalsely : Prop := numBackRow.holds Try.pinned (OpenSpec.ofChange numBackWrong)

/-- 'quittancelaw01.NumTimes': WHATEVER THE INPUT: true; the input reads as it did. -/
def numTimesSpec : ChangeSpec := { name := "numTimes", fn := fun _ => fun
  | [d1, d2, d3, d4] => { results := [.lit (.bool true)], args := [d1, d2, d3, d4] }
  | _ => none }
def numTimesRow : OpenClaim := { program := "ytpdjnjkliioneaa", sum := "0e28a39d7ccf449a6fd77c6edbd4e4ef71e1b5dd2939efcec8f5eb17be98fcb1", func := "quittance/quittancelaw01.NumTimes", spec := "numTimes", inPlace := ["math/bits.Add64", "math/bits.Sub64"], named := ["math/bits.divideError", "math/bits.overflowError"], apart := false }
def NumTimesSaid : Prop := numTimesRow.holds Try.pinned (OpenSpec.ofChange numTimesSpec)

/-- ITS FALSE NEIGHBOUR: 'it returns false'. Refute it at one input. -/
def numTimesWrong : ChangeSpec := { name := "numTimes", fn := fun _ => fun
  | [d1, d2, d3, d4] => { results := [.lit (.bool false)], args := [d1, d2, d3, d4] }
  | _ => none }
def NumTimesWrongFalsely : Prop := numTimesRow.holds Try.pinned (OpenSpec.ofChange numTimesWrong)

/-- 'quittancelaw01.NumText': WHATEVER THE INPUT: true; the input reads as it did. -/
def numTextSpec : ChangeSpec := { name := "numText", fn := fun _ => fun
  | [d] => { results := [.lit (.bool true)], args := [d] }
  | _ => none }
def numTextRow : OpenClaim := { program := "ytpdjnjkliioneaa", sum := "0e28a39d7ccf449a6fd77c6edbd4e4ef71e1b5dd2939efcec8f5eb17be98fcb1", func := "quittance/quittancelaw01.NumText", spec := "numText", inPlace := ["math/bits.Sub64", "math/bits.Add64"], named := ["math/bits.divideError", "math/bits.overflowError"], apart := false }
def NumTextSaid : Prop := numTextRow.holds Try.pinned (OpenSpec.ofChange numTextSpec)

/-- ITS FALSE NEIGHBOUR: 'it returns false'. Refute it at one input. -/
def numTextWrong : ChangeSpec := { name := "numText", fn := fun _ => fun
  | [d] => { results := [.lit (.bool false)], args := [d] }
  | _ => none }
def NumTextWrongFalsely : Prop := numTextRow.holds Try.pinned (OpenSpec.ofChange numTextWrong)

/-- 'quittancelaw01.NumOrder': WHATEVER THE INPUT: true; the input reads as it did. -/
def numOrderSpec : ChangeSpec := { name := "numOrder", fn := fun _ => fun
  | [d1, d2, d3] => { results := [.lit (.bool true)], args := [d1, d2, d3] }
  | _ => none }
def numOrderRow : OpenClaim := { program := "ytpdjnjkliioneaa", sum := "0e28a39d7ccf449a6fd77c6edbd4e4ef71e1b5dd2939efcec8f5eb17be98fcb1", func := "quittance/quittancelaw01.NumOrder", spec := "numOrder", inPlace := ["math/bits.Add64", "math/bits.Sub64"], named := ["math/bits.divideError", "math/bits.overflowError"], apart := false }
def NumOrderSaid : Prop := numOrderRow.holds Try.pinned (OpenSpec.ofChange numOrderSpec)

/-- ITS FALSE NEIGHBOUR: 'it returns false'. Refute it at one input. -/
def numOrderWrong : ChangeSpec := { name := "numOrder", fn := fun _ => fun
  | [d1, d2, d3] => { results := [.lit (.bool false)], args := [d1, d2, d3] }
  | _ => none }
def NumOrderWrongFalsely : Prop := numOrderRow.holds Try.pinned (OpenSpec.ofChange numOrderWrong)

/-- 'quittancelaw01.NumHalves': WHATEVER THE INPUT: true; the input reads as it did. -/
def numHalvesSpec : ChangeSpec := { name := "numHalves", fn := fun _ => fun
  | [d1, d2, d3, d4] => { results := [.lit (.bool true)], args := [d1, d2, d3, d4] }
  | _ => none }
def numHalvesRow : OpenClaim := { program := "ytpdjnjkliioneaa", sum := "0e28a39d7ccf449a6fd77c6edbd4e4ef71e1b5dd2939efcec8f5eb17be98fcb1", func := "quittance/quittancelaw01.NumHalves", spec := "numHalves", inPlace := ["math/bits.Add64", "math/bits.Sub64"], named := ["math/bits.divideError", "math/bits.overflowError"], apart := false }
def NumHalvesSaid : Prop := numHalvesRow.holds Try.pinned (OpenSpec.ofChange numHalvesSpec)

/-- ITS FALSE NEIGHBOUR: 'it returns false'. Refute it at one input. -/
def numHalvesWrong : ChangeSpec := { name := "numHalves", fn := fun _ => fun
  | [d1, d2, d3, d4] => { results := [.lit (.bool false)], args := [d1, d2, d3, d4] }
  | _ => none }
def NumHalvesWrongFalsely : Prop := numHalvesRow.holds Try.pinned (OpenSpec.ofChange numHalvesWrong)

/-- 'quittancelaw01.NumSafe': WHATEVER THE INPUT: true; the input reads as it did. -/
def numSafeSpec : ChangeSpec := { name := "numSafe", fn := fun _ => fun
  | [d1, d2] => { results := [.lit (.bool true)], args := [d1, d2] }
  | _ => none }
def numSafeRow : OpenClaim := { program := "ytpdjnjkliioneaa", sum := "0e28a39d7ccf449a6fd77c6edbd4e4ef71e1b5dd2939efcec8f5eb17be98fcb1", func := "quittance/quittancelaw01.NumSafe", spec := "numSafe", inPlace := ["math/bits.Add64", "math/bits.Sub64"], named := ["math/bits.divideError", "math/bits.overflowError"], apart := false }
def NumSafeSaid : Prop := numSafeRow.holds Try.pinned (OpenSpec.ofChange numSafeSpec)

/-- ITS FALSE NEIGHBOUR: 'it returns false'. Refute it at one input. -/
def numSafeWrong : ChangeSpec := { name := "numSafe", fn := fun _ => fun
  | [d1, d2] => { results := [.lit (.bool false)], args := [d1, d2] }
  | _ => none }
def NumSafeWrongFalsely : Prop := numSafeRow.holds Try.pinned (OpenSpec.ofChange numSafeWrong)

/-- 'quittancelaw01.NumSums': WHATEVER THE INPUT: true; the input reads as it did. -/
def numSumsSpec : ChangeSpec := { name := "numSums", fn := fun _ => fun
  | [d1, d2] => { results := [.lit (.bool true)], args := [d1, d2] }
  | _ => none }
def numSumsRow : OpenClaim := { program := "ytpdjnjkliioneaa", sum := "0e28a39d7ccf449a6fd77c6edbd4e4ef71e1b5dd2939efcec8f5eb17be98fcb1", func := "quittance/quittancelaw01.NumSums", spec := "numSums", inPlace := ["math/bits.Add64", "math/bits.Sub64"], named := ["math/bits.divideError", "math/bits.overflowError"], apart := false }
def NumSumsSaid : Prop := numSumsRow.holds Try.pinned (OpenSpec.ofChange numSumsSpec)

/-- ITS FALSE NEIGHBOUR: 'it returns false'. Refute it at one input. -/
def numSumsWrong : ChangeSpec := { name := "numSums", fn := fun _ => fun
  | [d1, d2] => { results := [.lit (.bool false)], args := [d1, d2] }
  | _ => none }
def NumSumsWrongFalsely : Prop := numSumsRow.holds Try.pinned (OpenSpec.ofChange numSumsWrong)

/-- 'quittancelaw01.NumAsks': WHATEVER THE INPUT: true; the input reads as it did. -/
def numAsksSpec : ChangeSpec := { name := "numAsks", fn := fun _ => fun
  | [d1, d2, d3, d4, d5, d6, d7] => { results := [.lit (.bool true)], args := [d1, d2, d3, d4, d5, d6, d7] }
  | _ => none }
def numAsksRow : OpenClaim := { program := "ytpdjnjkliioneaa", sum := "0e28a39d7ccf449a6fd77c6edbd4e4ef71e1b5dd2939efcec8f5eb17be98fcb1", func := "quittance/quittancelaw01.NumAsks", spec := "numAsks", inPlace := ["math/bits.Add64", "math/bits.Sub64"], named := ["math/bits.divideError", "math/bits.overflowError"], apart := false }
def NumAsksSaid : Prop := numAsksRow.holds Try.pinned (OpenSpec.ofChange numAsksSpec)

/-- ITS FALSE NEIGHBOUR: 'it returns false'. Refute it at one input. -/
def numAsksWrong : ChangeSpec := { name := "numAsks", fn := fun _ => fun
  | [d1, d2, d3, d4, d5, d6, d7] => { results := [.lit (.bool false)], args := [d1, d2, d3, d4, d5, d6, d7] }
  | _ => none }
def NumAsksWrongFalsely : Prop := numAsksRow.holds Try.pinned (OpenSpec.ofChange numAsksWrong)

/- THE SECOND FORM. 'bulk': how many values and letters a reading holds, each counted each time it is reached (what is shared counts as often as it is met; a slice's spare places count too). A statement '..UptoSaid' is the law's where the arguments, and the package variables that the reading takes, are together of bulk at most 1048576: NARROWER than '..Said'. Prove '..Said' where nothing that the law and all that it calls make is longer than what came in: it says more and counts as full. Else prove '..UptoSaid'. A law counts once. -/
mutual
def uptoBulk {H : Type} : DataW H → Nat
  | .lit (.string bytes) => bytes.length + 1
  | .lit _ => 1
  | .nil => 1
  | .ptr d => uptoBulk d + 1
  | .slice elems spare => uptoBulkAll elems + uptoBulkAll spare + 1
  | .agg parts => uptoBulkAll parts + 1
  | .iface _ d => uptoBulk d + 1
  | .map entries => uptoBulkEntries entries + 1
  | .held _ => 1
def uptoBulkAll {H : Type} : List (DataW H) → Nat
  | [] => 0
  | d :: r => uptoBulk d + uptoBulkAll r
def uptoBulkEntries {H : Type} : List (Lit × DataW H) → Nat
  | [] => 0
  | x :: r => uptoBulkEntry x + uptoBulkEntries r
def uptoBulkEntry {H : Type} : Lit × DataW H → Nat
  | (.string bytes, d) => bytes.length + uptoBulk d + 1
  | (_, d) => uptoBulk d + 1
 end
def uptoSmall : (H : Type) → List (DataW H) → Bool := fun _ ds => decide (uptoBulkAll ds ≤ 1048576)
def OpenSpec.upto (s : _root_.Go.ChangeSpec) : _root_.Go.OpenSpec := { _root_.Go.OpenSpec.ofChange s with cond := some uptoSmall }

/-- 'quittancelaw01.NumBack', WHERE WHAT IT READS IS OF BULK AT MOST 1048576: true; the input reads as it did. -/
def numBackUptoRow : OpenClaim := { program := "ytpdjnjkliioneaa", sum := "0e28a39d7ccf449a6fd77c6edbd4e4ef71e1b5dd2939efcec8f5eb17be98fcb1", func := "quittance/quittancelaw01.NumBack", spec := "numBack", inPlace := ["math/bits.Add64", "math/bits.Sub64"], named := ["math/bits.divideError", "math/bits.overflowError"], apart := false, narrowed := true }
def NumBackUptoSaid : Prop := numBackUptoRow.holds Try.pinned (OpenSpec.upto numBackSpec)

/-- 'quittancelaw01.NumTimes', WHERE WHAT IT READS IS OF BULK AT MOST 1048576: true; the input reads as it did. -/
def numTimesUptoRow : OpenClaim := { program := "ytpdjnjkliioneaa", sum := "0e28a39d7ccf449a6fd77c6edbd4e4ef71e1b5dd2939efcec8f5eb17be98fcb1", func := "quittance/quittancelaw01.NumTimes", spec := "numTimes", inPlace := ["math/bits.Add64", "math/bits.Sub64"], named := ["math/bits.divideError", "math/bits.overflowError"], apart := false, narrowed := true }
def NumTimesUptoSaid : Prop := numTimesUptoRow.holds Try.pinned (OpenSpec.upto numTimesSpec)

/-- 'quittancelaw01.NumText', WHERE WHAT IT READS IS OF BULK AT MOST 1048576: true; the input reads as it did. -/
def numTextUptoRow : OpenClaim := { program := "ytpdjnjkliioneaa", sum := "0e28a39d7ccf449a6fd77c6edbd4e4ef71e1b5dd2939efcec8f5eb17be98fcb1", func := "quittance/quittancelaw01.NumText", spec := "numText", inPlace := ["math/bits.Sub64", "math/bits.Add64"], named := ["math/bits.divideError", "math/bits.overflowError"], apart := false, narrowed := true }
def NumTextUptoSaid : Prop := numTextUptoRow.holds Try.pinned (OpenSpec.upto numTextSpec)

/-- 'quittancelaw01.NumOrder', WHERE WHAT IT READS IS OF BULK AT MOST 1048576: true; the input reads as it did. -/
def numOrderUptoRow : OpenClaim := { program := "ytpdjnjkliioneaa", sum := "0e28a39d7ccf449a6fd77c6edbd4e4ef71e1b5dd2939efcec8f5eb17be98fcb1", func := "quittance/quittancelaw01.NumOrder", spec := "numOrder", inPlace := ["math/bits.Add64", "math/bits.Sub64"], named := ["math/bits.divideError", "math/bits.overflowError"], apart := false, narrowed := true }
def NumOrderUptoSaid : Prop := numOrderUptoRow.holds Try.pinned (OpenSpec.upto numOrderSpec)

/-- 'quittancelaw01.NumHalves', WHERE WHAT IT READS IS OF BULK AT MOST 1048576: true; the input reads as it did. -/
def numHalvesUptoRow : OpenClaim := { program := "ytpdjnjkliioneaa", sum := "0e28a39d7ccf449a6fd77c6edbd4e4ef71e1b5dd2939efcec8f5eb17be98fcb1", func := "quittance/quittancelaw01.NumHalves", spec := "numHalves", inPlace := ["math/bits.Add64", "math/bits.Sub64"], named := ["math/bits.divideError", "math/bits.overflowError"], apart := false, narrowed := true }
def NumHalvesUptoSaid : Prop := numHalvesUptoRow.holds Try.pinned (OpenSpec.upto numHalvesSpec)

/-- 'quittancelaw01.NumSafe', WHERE WHAT IT READS IS OF BULK AT MOST 1048576: true; the input reads as it did. -/
def numSafeUptoRow : OpenClaim := { program := "ytpdjnjkliioneaa", sum := "0e28a39d7ccf449a6fd77c6edbd4e4ef71e1b5dd2939efcec8f5eb17be98fcb1", func := "quittance/quittancelaw01.NumSafe", spec := "numSafe", inPlace := ["math/bits.Add64", "math/bits.Sub64"], named := ["math/bits.divideError", "math/bits.overflowError"], apart := false, narrowed := true }
def NumSafeUptoSaid : Prop := numSafeUptoRow.holds Try.pinned (OpenSpec.upto numSafeSpec)

/-- 'quittancelaw01.NumSums', WHERE WHAT IT READS IS OF BULK AT MOST 1048576: true; the input reads as it did. -/
def numSumsUptoRow : OpenClaim := { program := "ytpdjnjkliioneaa", sum := "0e28a39d7ccf449a6fd77c6edbd4e4ef71e1b5dd2939efcec8f5eb17be98fcb1", func := "quittance/quittancelaw01.NumSums", spec := "numSums", inPlace := ["math/bits.Add64", "math/bits.Sub64"], named := ["math/bits.divideError", "math/bits.overflowError"], apart := false, narrowed := true }
def NumSumsUptoSaid : Prop := numSumsUptoRow.holds Try.pinned (OpenSpec.upto numSumsSpec)

/-- 'quittancelaw01.NumAsks', WHERE WHAT IT READS IS OF BULK AT MOST 1048576: true; the input reads as it did. -/
def numAsksUptoRow : OpenClaim := { program := "ytpdjnjkliioneaa", sum := "0e28a39d7ccf449a6fd77c6edbd4e4ef71e1b5dd2939efcec8f5eb17be98fcb1", func := "quittance/quittancelaw01.NumAsks", spec := "numAsks", inPlace := ["math/bits.Add64", "math/bits.Sub64"], named := ["math/bits.divideError", "math/bits.overflowError"], apart := false, narrowed := true }
def NumAsksUptoSaid : Prop := numAsksUptoRow.holds Try.pinned (OpenSpec.upto numAsksSpec)

end Rows
end Go.Proofs.Ytpdjnjkliioneaa
