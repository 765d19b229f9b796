/-
  Arguments that came in: wide numbers. Plain lemmas over any program.
-/
import Derived.Test.YtiboffhdabeiiaaSxO
import Derived.Test.YtiboffhdabeiiaaWdP
namespace Go.Proofs.Ytiboffhdabeiiaa
open Go Go.RowKit Go.ChangeShapes Go.WideShapes Go.Deep
theorem reads_wide {P : Program} {W : World} {t : TypeId} {f0 f1 : Field} (ht : P.underlying t = some (.struct #[f0, f1])) (hn : P.cellsOf t = 2) (o0 : f0.offset = 0 ∧ P.cellsOf f0.type = 1) (o1 : f1.offset = 1 ∧ P.cellsOf f1.type = 1)
    (h0 : P.underlying f0.type = some (.int .i64)) (h1 : P.underlying f1.type = some (.int .u64)) : Reads P W t fun cs => ∃ n : Int, cs = eWide.enc (toW n) := by
  let R : Nat → List Value → Prop := fun i => match i with
    | 0 => fun cs => ∃ n : Int, cs = [.int .i64 n] ∧ i64R n
    | _ => fun cs => ∃ n : Int, cs = [.int .u64 n] ∧ IntKind.u64.min ≤ n ∧ n ≤ IntKind.u64.max
  refine (reads_struct (R := R) ht (fun i f hf => by
    match i, hf with
    | 0, hf => simp at hf; subst hf; exact reads_i64 h0
    | 1, hf => simp at hf; subst hf; exact reads_int h1)).mono fun cs ⟨hl, hh⟩ => ?_
  rw [hn] at hl
  match cs, hl with
  | [c0, c1], _ =>
    obtain ⟨a, e0, r0, r0'⟩ := hh 0 f0 rfl
    obtain ⟨b, e1, r1, r1'⟩ := hh 1 f1 rfl
    rw [o0.1, o0.2] at e0
    rw [o1.1, o1.2] at e1
    simp at e0 e1
    subst e0 e1
    simp [IntKind.min, IntKind.max, IntKind.signed, IntKind.bits] at r1 r1'
    refine ⟨ofW ⟨a, b⟩, ?_⟩
    rw [toW_ofW ⟨r0, r0', r1, by dsimp only; omega⟩]
    rfl
end Go.Proofs.Ytiboffhdabeiiaa
