/-
  Instances, plain: arcs, supplies; what is wrong with one. No program in sight.
-/
import Derived.Test.YtiboffhdabeiiaaMem
namespace Go.Proofs.Ytiboffhdabeiiaa

structure PArc where
  fr : Int
  dt : Int
  lo : Int
  ca : Int
  co : Int
deriving DecidableEq

def PArc.cells (a : PArc) : List Value := [.int .i64 a.fr, .int .i64 a.dt, .int .i64 a.lo, .int .i64 a.ca, .int .i64 a.co]
def PArc.val (a : PArc) : Value := .agg #[.int .i64 a.fr, .int .i64 a.dt, .int .i64 a.lo, .int .i64 a.ca, .int .i64 a.co]
def arcl (l : List PArc) : List Value := l.flatMap PArc.cells
theorem arcl_len (l : List PArc) : (arcl l).length = l.length * 5 := by
  induction l with
  | nil => rfl
  | cons a l ih => simp only [arcl, List.flatMap_cons, List.length_append] at ih ⊢; rw [ih]; simp [PArc.cells]; omega
theorem arcl_snoc (l : List PArc) (a : PArc) : arcl (l ++ [a]) = arcl l ++ a.cells := by simp [arcl]
theorem arcl_at {l : List PArc} {i j : Nat} {a : PArc} {u : Value} (h : l[i]? = some a) (hu : a.cells[j]? = some u) : (arcl l)[i * 5 + j]? = some u := by
  induction l generalizing i with
  | nil => simp at h
  | cons b l ih =>
    have hj : j < 5 := by have := (List.getElem?_eq_some_iff.1 hu).1; simpa [PArc.cells] using this
    cases i with
    | zero =>
      simp at h
      subst h
      show (b.cells ++ arcl l)[0 * 5 + j]? = some u
      rw [List.getElem?_append_left (by simp [PArc.cells]; omega)]
      simpa using hu
    | succ i =>
      simp at h
      show (b.cells ++ arcl l)[(i + 1) * 5 + j]? = some u
      rw [List.getElem?_append_right (by simp [PArc.cells]; omega)]
      have : (i + 1) * 5 + j - b.cells.length = i * 5 + j := by simp [PArc.cells]; omega
      rw [this]
      exact ih h
theorem arcl_one (l : List PArc) : ∀ u ∈ arcl l, u.oneCell' = true := by
  intro u hu
  simp only [arcl, List.mem_flatMap] at hu
  obtain ⟨a, _, hu⟩ := hu
  simp only [PArc.cells, List.mem_cons, List.not_mem_nil, or_false] at hu
  rcases hu with rfl | rfl | rfl | rfl | rfl <;> rfl

def spanN (l : List PArc) : Nat := l.countP fun a => a.lo != 0
def inB (n : Int) : Bool := decide (n ≥ -4398046511104) && decide (n ≤ 4398046511104)
def nodeB (n : Int) (m : Nat) : Bool := decide (n ≥ 0) && decide (n < (m : Int))
/-- What is wrong with an arc. -/
def wrongN (a : PArc) (m : Nat) : Nat :=
  if nodeB a.fr m && nodeB a.dt m then
    if decide (a.lo < 0) || decide (a.lo > 4398046511104) || (a.ca != 4611686018427387904 && (decide (a.ca < a.lo) || decide (a.ca > 4398046511104))) then 22
    else if inB a.co then 0 else 23
  else 21
def arcsBad (m : Nat) : List PArc → Nat
  | [] => 0
  | a :: l => if wrongN a m = 0 then arcsBad m l else wrongN a m
def supBad : List Int → Int → Nat
  | [], sum => if sum = 0 then 0 else 25
  | n :: l, sum => if inB n then supBad l (sum + n) else 24
/-- What is wrong with an instance. -/
def rightN (s : List Int) (l : List PArc) : Nat :=
  if s.length > 64 ∨ l.length > 256 then 20
  else if arcsBad s.length l = 0 then supBad s 0 else arcsBad s.length l
end Go.Proofs.Ytiboffhdabeiiaa
