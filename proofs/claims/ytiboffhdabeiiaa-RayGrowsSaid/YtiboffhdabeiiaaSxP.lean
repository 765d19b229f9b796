/-
  Arcs as elements of a row.
-/
import Derived.Test.YtiboffhdabeiiaaSxL
import Derived.Test.YtiboffhdabeiiaaInP
namespace Go.Proofs.Ytiboffhdabeiiaa
open Go Go.RowKit
def eArc : Enc PArc where
  size := 5
  enc a := [.int .i64 a.fr, .int .i64 a.dt, .int .i64 a.lo, .int .i64 a.ca, .int .i64 a.co]
  dec | [.int .i64 a, .int .i64 b, .int .i64 c, .int .i64 d, .int .i64 e] => some ⟨a, b, c, d, e⟩
      | _ => none
  zero := ⟨0, 0, 0, 0, 0⟩
  len _ := rfl
  pos := by decide
  one := by
    intro a u hu
    simp only [List.mem_cons, List.not_mem_nil, or_false] at hu
    rcases hu with rfl | rfl | rfl | rfl | rfl <;> rfl
  decL := by
    intro l a h
    split at h
    · injection h with h; subst h; rfl
    · cases h
@[reducible] def arcS (a : PArc) : SV := .agg [.v (.int .i64 a.fr), .v (.int .i64 a.dt), .v (.int .i64 a.lo), .v (.int .i64 a.ca), .v (.int .i64 a.co)]
@[reducible] def iv (n : Int) : SV := .v (.int .i64 n)
@[reducible] def vI (s : List Int) (l : List PArc) : SV := .agg [.a 1000 s.length, .a 1001 l.length]
@[reducible] def hI (s : List Int) (l : List PArc) : List (Nat × Chunk) := [(1000, .ro eInt s), (1001, .ro eArc l)]
theorem slotI {a b : Int} (h : a = b) : some (SV.v (.int .i64 a)) = some (SV.v (.int .i64 b)) := by rw [h]
end Go.Proofs.Ytiboffhdabeiiaa
