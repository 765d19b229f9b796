/-
  No cell of these rows narrows 'for every input' (looked for: loops, veiled, ifaces, maps, wideKeys, modest, calm, conditions, laid).
  DERIVED. THE GIVEN ROWS OF THIS SEAT. 5 by the template 'for every input the law returns true; each argument reads behind the call as it read before'; 0 by the template 'total and deterministic' (their statements: YteepfhdndhepmaaTotals.lean).
  GIVEN WITH THE SEED: the statements are not yours to turn. If you find one false, say at which input.
  Laid BY PROGRAM, IN A SANDBOX (cutbox-rows.mjs): the forced cells as the released guide's own fill.sh prints them over the translation a44562207fcde50c… (all of the seat's roots in one cut). By AI agents, Wed Nov 11 2026. No macro, syntax, notation, axiom, sorry.
-/
import Derived.Test.YteepfhdndhepmaaChecked
import GoSem.Claim
import GoSem.ClaimJoined
import GoSem.ClaimMapViews
import Derived.JoinedTies
import Derived.KernelRfl
namespace Go.Proofs.Yteepfhdndhepmaa
/- THE CELL 'sum', in the pinned program and in every row, IS THE sha256 OF THE DUMP (.gsa) THAT YteepfhdndhepmaaProg.lean LOADS. Nothing in Lean hashes anything: it is a label: what it is worth is what the hold of that sum in a sandbox is worth. -/
noncomputable def Try.pinned : Pinned := { name := "yteepfhdndhepmaa", sum := "a44562207fcde50cf5a257c46ac590c24c58741077f28aa84c41e39538f27a1f", checked := Try.checked }
namespace Rows
def none {H : Type} : Left H := { results := [], args := [] }

/-- 'quittancelaw03.InstBent': WHATEVER THE INPUT: true; the input reads as it did. -/
def instBentSpec : ChangeSpec := { name := "instBent", fn := fun _ => fun
  | [d1, d2, d3, d4, d5, d6, d7, d8] => { results := [.lit (.bool true)], args := [d1, d2, d3, d4, d5, d6, d7, d8] }
  | _ => none }
def instBentRow : OpenClaim := { program := "yteepfhdndhepmaa", sum := "a44562207fcde50cf5a257c46ac590c24c58741077f28aa84c41e39538f27a1f", func := "quittance/quittancelaw03.InstBent", spec := "instBent", unfollowed := true, recurses := true, apart := false }
def InstBentSaid : Prop := instBentRow.holds Try.pinned (OpenSpec.ofChange instBentSpec)

/-- ITS FALSE NEIGHBOUR: 'it returns false'. Refute it at one input. -/
def instBentWrong : ChangeSpec := { name := "instBent", fn := fun _ => fun
  | [d1, d2, d3, d4, d5, d6, d7, d8] => { results := [.lit (.bool false)], args := [d1, d2, d3, d4, d5, d6, d7, d8] }
  | _ => none }
def InstBentWrongFalsely : Prop := instBentRow.holds Try.pinned (OpenSpec.ofChange instBentWrong)

/-- 'quittancelaw03.InstMany': WHATEVER THE INPUT: true; the input reads as it did. -/
def instManySpec : ChangeSpec := { name := "instMany", fn := fun _ => fun
  | [d1, d2, d3] => { results := [.lit (.bool true)], args := [d1, d2, d3] }
  | _ => none }
def instManyRow : OpenClaim := { program := "yteepfhdndhepmaa", sum := "a44562207fcde50cf5a257c46ac590c24c58741077f28aa84c41e39538f27a1f", func := "quittance/quittancelaw03.InstMany", spec := "instMany", unfollowed := true, recurses := true, apart := false }
def InstManySaid : Prop := instManyRow.holds Try.pinned (OpenSpec.ofChange instManySpec)

/-- ITS FALSE NEIGHBOUR: 'it returns false'. Refute it at one input. -/
def instManyWrong : ChangeSpec := { name := "instMany", fn := fun _ => fun
  | [d1, d2, d3] => { results := [.lit (.bool false)], args := [d1, d2, d3] }
  | _ => none }
def InstManyWrongFalsely : Prop := instManyRow.holds Try.pinned (OpenSpec.ofChange instManyWrong)

/-- 'quittancelaw03.InstSpan': WHATEVER THE INPUT: true; the input reads as it did. -/
def instSpanSpec : ChangeSpec := { name := "instSpan", fn := fun _ => fun
  | [d1, d2, d3] => { results := [.lit (.bool true)], args := [d1, d2, d3] }
  | _ => none }
def instSpanRow : OpenClaim := { program := "yteepfhdndhepmaa", sum := "a44562207fcde50cf5a257c46ac590c24c58741077f28aa84c41e39538f27a1f", func := "quittance/quittancelaw03.InstSpan", spec := "instSpan", unfollowed := true, recurses := true, apart := false }
def InstSpanSaid : Prop := instSpanRow.holds Try.pinned (OpenSpec.ofChange instSpanSpec)

/-- ITS FALSE NEIGHBOUR: 'it returns false'. Refute it at one input. -/
def instSpanWrong : ChangeSpec := { name := "instSpan", fn := fun _ => fun
  | [d1, d2, d3] => { results := [.lit (.bool false)], args := [d1, d2, d3] }
  | _ => none }
def InstSpanWrongFalsely : Prop := instSpanRow.holds Try.pinned (OpenSpec.ofChange instSpanWrong)

/-- 'quittancelaw03.InstAsks': WHATEVER THE INPUT: true; the input reads as it did. -/
def instAsksSpec : ChangeSpec := { name := "instAsks", fn := fun _ => fun
  | [d1, d2, d3, d4, d5, d6, d7] => { results := [.lit (.bool true)], args := [d1, d2, d3, d4, d5, d6, d7] }
  | _ => none }
def instAsksRow : OpenClaim := { program := "yteepfhdndhepmaa", sum := "a44562207fcde50cf5a257c46ac590c24c58741077f28aa84c41e39538f27a1f", func := "quittance/quittancelaw03.InstAsks", spec := "instAsks", unfollowed := true, recurses := true, apart := false }
def InstAsksSaid : Prop := instAsksRow.holds Try.pinned (OpenSpec.ofChange instAsksSpec)

/-- ITS FALSE NEIGHBOUR: 'it returns false'. Refute it at one input. -/
def instAsksWrong : ChangeSpec := { name := "instAsks", fn := fun _ => fun
  | [d1, d2, d3, d4, d5, d6, d7] => { results := [.lit (.bool false)], args := [d1, d2, d3, d4, d5, d6, d7] }
  | _ => none }
def InstAsksWrongFalsely : Prop := instAsksRow.holds Try.pinned (OpenSpec.ofChange instAsksWrong)

/-- 'quittancelaw03.InstCopy': WHATEVER THE INPUT: true; the input reads as it did. -/
def instCopySpec : ChangeSpec := { name := "instCopy", fn := fun _ => fun
  | [d1, d2] => { results := [.lit (.bool true)], args := [d1, d2] }
  | _ => none }
def instCopyRow : OpenClaim := { program := "yteepfhdndhepmaa", sum := "a44562207fcde50cf5a257c46ac590c24c58741077f28aa84c41e39538f27a1f", func := "quittance/quittancelaw03.InstCopy", spec := "instCopy", unfollowed := true, recurses := true, apart := false }
def InstCopySaid : Prop := instCopyRow.holds Try.pinned (OpenSpec.ofChange instCopySpec)

/-- ITS FALSE NEIGHBOUR: 'it returns false'. Refute it at one input. -/
def instCopyWrong : ChangeSpec := { name := "instCopy", fn := fun _ => fun
  | [d1, d2] => { results := [.lit (.bool false)], args := [d1, d2] }
  | _ => none }
def InstCopyWrongFalsely : Prop := instCopyRow.holds Try.pinned (OpenSpec.ofChange instCopyWrong)

/- THE SECOND FORM. 'bulk': how many values and letters a reading holds, each counted each time it is reached (what is shared counts as often as it is met; a slice's spare places count too). A statement '..UptoSaid' is the law's where the arguments, and the package variables that the reading takes, are together of bulk at most 1048576: NARROWER than '..Said'. Prove '..Said' where nothing that the law and all that it calls make is longer than what came in: it says more and counts as full. Else prove '..UptoSaid'. A law counts once. -/
mutual
def uptoBulk {H : Type} : DataW H → Nat
  | .lit (.string bytes) => bytes.length + 1
  | .lit _ => 1
  | .nil => 1
  | .ptr d => uptoBulk d + 1
  | .slice elems spare => uptoBulkAll elems + uptoBulkAll spare + 1
  | .agg parts => uptoBulkAll parts + 1
  | .iface _ d => uptoBulk d + 1
  | .map entries => uptoBulkEntries entries + 1
  | .held _ => 1
def uptoBulkAll {H : Type} : List (DataW H) → Nat
  | [] => 0
  | d :: r => uptoBulk d + uptoBulkAll r
def uptoBulkEntries {H : Type} : List (Lit × DataW H) → Nat
  | [] => 0
  | x :: r => uptoBulkEntry x + uptoBulkEntries r
def uptoBulkEntry {H : Type} : Lit × DataW H → Nat
  | (.string bytes, d) => bytes.length + uptoBulk d + 1
  | (_, d) => uptoBulk d + 1
 end
def uptoSmall : (H : Type) → List (DataW H) → Bool := fun _ ds => decide (uptoBulkAll ds ≤ 1048576)
def OpenSpec.upto (s : _root_.Go.ChangeSpec) : _root_.Go.OpenSpec := { _root_.Go.OpenSpec.ofChange s with cond := some uptoSmall }

/-- 'quittancelaw03.InstBent', WHERE WHAT IT READS IS OF BULK AT MOST 1048576: true; the input reads as it did. -/
def instBentUptoRow : OpenClaim := { program := "yteepfhdndhepmaa", sum := "a44562207fcde50cf5a257c46ac590c24c58741077f28aa84c41e39538f27a1f", func := "quittance/quittancelaw03.InstBent", spec := "instBent", unfollowed := true, recurses := true, apart := false, narrowed := true }
def InstBentUptoSaid : Prop := instBentUptoRow.holds Try.pinned (OpenSpec.upto instBentSpec)

/-- 'quittancelaw03.InstMany', WHERE WHAT IT READS IS OF BULK AT MOST 1048576: true; the input reads as it did. -/
def instManyUptoRow : OpenClaim := { program := "yteepfhdndhepmaa", sum := "a44562207fcde50cf5a257c46ac590c24c58741077f28aa84c41e39538f27a1f", func := "quittance/quittancelaw03.InstMany", spec := "instMany", unfollowed := true, recurses := true, apart := false, narrowed := true }
def InstManyUptoSaid : Prop := instManyUptoRow.holds Try.pinned (OpenSpec.upto instManySpec)

/-- 'quittancelaw03.InstSpan', WHERE WHAT IT READS IS OF BULK AT MOST 1048576: true; the input reads as it did. -/
def instSpanUptoRow : OpenClaim := { program := "yteepfhdndhepmaa", sum := "a44562207fcde50cf5a257c46ac590c24c58741077f28aa84c41e39538f27a1f", func := "quittance/quittancelaw03.InstSpan", spec := "instSpan", unfollowed := true, recurses := true, apart := false, narrowed := true }
def InstSpanUptoSaid : Prop := instSpanUptoRow.holds Try.pinned (OpenSpec.upto instSpanSpec)

/-- 'quittancelaw03.InstAsks', WHERE WHAT IT READS IS OF BULK AT MOST 1048576: true; the input reads as it did. -/
def instAsksUptoRow : OpenClaim := { program := "yteepfhdndhepmaa", sum := "a44562207fcde50cf5a257c46ac590c24c58741077f28aa84c41e39538f27a1f", func := "quittance/quittancelaw03.InstAsks", spec := "instAsks", unfollowed := true, recurses := true, apart := false, narrowed := true }
def InstAsksUptoSaid : Prop := instAsksUptoRow.holds Try.pinned (OpenSpec.upto instAsksSpec)

/-- 'quittancelaw03.InstCopy', WHERE WHAT IT READS IS OF BULK AT MOST 1048576: true; the input reads as it did. -/
def instCopyUptoRow : OpenClaim := { program := "yteepfhdndhepmaa", sum := "a44562207fcde50cf5a257c46ac590c24c58741077f28aa84c41e39538f27a1f", func := "quittance/quittancelaw03.InstCopy", spec := "instCopy", unfollowed := true, recurses := true, apart := false, narrowed := true }
def InstCopyUptoSaid : Prop := instCopyUptoRow.holds Try.pinned (OpenSpec.upto instCopySpec)

end Rows
end Go.Proofs.Yteepfhdndhepmaa
