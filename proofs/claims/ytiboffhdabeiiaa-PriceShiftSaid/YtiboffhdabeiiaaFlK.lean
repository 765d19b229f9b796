/-
  Rows of int32, as they come in.
-/
import Derived.Test.YtiboffhdabeiiaaSxO
namespace Go.Proofs.Ytiboffhdabeiiaa
open Go Go.RowKit Go.ChangeShapes Go.WideShapes Go.Deep
def eI32 : Enc Int where
  size := 1
  enc n := [.int .i32 n]
  dec | [.int .i32 a] => some a
      | _ => none
  zero := 0
  len _ := rfl
  pos := by decide
  one := by
    intro a u hu
    simp only [List.mem_cons, List.not_mem_nil, or_false] at hu
    subst hu
    rfl
  decL := by
    intro l a h
    split at h
    · injection h with h; subst h; rfl
    · cases h
theorem reads_i32s {P : Program} {W : World} {t e : TypeId} (ht : P.underlying t = some (.slice e)) (he : P.underlying e = some (.int .i32)) (hc : P.cellsOf e = 1) (hb : P.bytesOf e = 4) :
    Reads P W t fun cs => ∃ (A : Option Addr) (cap : Nat) (l : List Int), cs = [.slice A l.length cap] ∧ Rd W (fun _ => True) eI32.size A l.length (flat eI32 l) ∧ (∀ a ∈ l, -2147483648 ≤ a ∧ a ≤ 2147483647) ∧ l.length * 4 ≤ reachBytes ∧ l.length ≤ cap ∧ cap ≤ maxLen :=
  reads_row eI32 ht hc hb ((reads_int he).mono fun cs ⟨n, h1, h2, h3⟩ => ⟨n, h1, by simpa [IntKind.min, IntKind.signed, IntKind.bits] using h2, by simpa [IntKind.max, IntKind.signed, IntKind.bits] using h3⟩)
end Go.Proofs.Ytiboffhdabeiiaa
