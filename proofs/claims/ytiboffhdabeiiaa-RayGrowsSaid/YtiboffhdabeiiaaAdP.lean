/-
  adj: plain lemmas: where each node's arcs begin.
-/
import Derived.Test.YtiboffhdabeiiaaWdA
namespace Go.Proofs.Ytiboffhdabeiiaa
open Go Go.RowKit
def wholeB (n : Nat) (a : PArc) : Bool := decide (0 ≤ a.fr ∧ a.fr < n ∧ 0 ≤ a.dt ∧ a.dt < n)
/-- How many of a list's whole arcs have the node ahead of j; how many have a node ahead of j, or less. -/
def c1 (n : Nat) (sel : PArc → Int) (l : List PArc) (j : Nat) : Nat := l.countP fun a => wholeB n a && decide (sel a + 1 = (j : Int))
def cu (n : Nat) (sel : PArc → Int) (l : List PArc) (j : Nat) : Nat := l.countP fun a => wholeB n a && decide (sel a + 1 ≤ (j : Int))
def rng (n : Nat) (g : Nat → Nat) : List Int := (List.range (n + 1)).map fun j => ((g j : Nat) : Int)
theorem rng_len (n : Nat) (g : Nat → Nat) : (rng n g).length = n + 1 := by simp [rng]
theorem rng_at {n : Nat} (g : Nat → Nat) {j : Nat} (h : j ≤ n) : (rng n g)[j]? = some ((g j : Nat) : Int) := by
  unfold rng
  rw [List.getElem?_map, List.getElem?_range (by omega)]
  rfl
theorem rng_set {n : Nat} {g g' : Nat → Nat} {j : Nat} {v : Int} (h : j ≤ n) (hv : v = g' j) (hg : ∀ i, i ≠ j → g' i = g i) : (rng n g).set j v = rng n g' := by
  apply List.ext_getElem?
  intro i
  rw [List.getElem?_set]
  by_cases hi : j = i
  · subst hi
    rw [if_pos rfl, rng_len, if_pos (by omega), rng_at g' h, hv]
  · rw [if_neg hi]
    by_cases hin : i ≤ n
    · rw [rng_at g hin, rng_at g' hin, hg i (fun h => hi h.symm)]
    · rw [List.getElem?_eq_none (by rw [rng_len]; omega), List.getElem?_eq_none (by rw [rng_len]; omega)]
theorem rng_congr {n : Nat} {g g' : Nat → Nat} (h : ∀ j, j ≤ n → g j = g' j) : rng n g = rng n g' := by
  apply List.ext_getElem?
  intro i
  by_cases hin : i ≤ n
  · rw [rng_at g hin, rng_at g' hin, h i hin]
  · rw [List.getElem?_eq_none (by rw [rng_len]; omega), List.getElem?_eq_none (by rw [rng_len]; omega)]
theorem rng_zero (n : Nat) : List.replicate (n + 1) (0 : Int) = rng n fun _ => 0 := by
  apply List.ext_getElem?
  intro i
  rw [List.getElem?_replicate]
  by_cases hin : i ≤ n
  · rw [rng_at _ hin, if_pos (by omega)]; rfl
  · rw [if_neg (by omega), List.getElem?_eq_none (by rw [rng_len]; omega)]
section
variable {n : Nat} {sel : PArc → Int} {l : List PArc}
theorem c1_snoc (a : PArc) (j : Nat) : c1 n sel (l ++ [a]) j = c1 n sel l j + if wholeB n a = true ∧ sel a + 1 = (j : Int) then 1 else 0 := by
  unfold c1
  rw [List.countP_append, List.countP_singleton]
  congr 1
  simp only [Bool.and_eq_true, decide_eq_true_eq]
theorem cu_succ (j : Nat) : cu n sel l (j + 1) = cu n sel l j + c1 n sel l (j + 1) := by
  induction l with
  | nil => rfl
  | cons a l ih =>
    unfold cu c1 at *
    simp only [List.countP_cons, Bool.and_eq_true, decide_eq_true_eq] at *
    rw [ih]
    have e : ((j + 1 : Nat) : Int) = (j : Int) + 1 := by omega
    rw [e]
    by_cases hw : wholeB n a = true
    · by_cases h1 : sel a + 1 ≤ (j : Int)
      · rw [if_pos ⟨hw, by omega⟩, if_pos ⟨hw, h1⟩, if_neg (by rintro ⟨_, h⟩; omega)]; omega
      · by_cases h2 : sel a + 1 = (j : Int) + 1
        · rw [if_pos ⟨hw, by omega⟩, if_neg (by rintro ⟨_, h⟩; omega), if_pos ⟨hw, h2⟩]; omega
        · rw [if_neg (by rintro ⟨_, h⟩; omega), if_neg (by rintro ⟨_, h⟩; omega), if_neg (by rintro ⟨_, h⟩; omega)]; omega
    · rw [if_neg (by rintro ⟨h, _⟩; exact hw h), if_neg (by rintro ⟨h, _⟩; exact hw h), if_neg (by rintro ⟨h, _⟩; exact hw h)]; omega
theorem cu_zero (hs : ∀ a ∈ l, wholeB n a = true → 0 ≤ sel a) : cu n sel l 0 = c1 n sel l 0 := by
  unfold cu c1
  apply List.countP_congr
  intro a ha
  simp only [Bool.and_eq_true, decide_eq_true_eq]
  constructor
  · rintro ⟨h1, h2⟩
    have := hs a ha h1
    omega
  · rintro ⟨h1, h2⟩
    have := hs a ha h1
    omega
theorem cu_le (j : Nat) : cu n sel l j ≤ l.length := List.countP_le_length
theorem c1_le (j : Nat) : c1 n sel l j ≤ l.length := List.countP_le_length
theorem cu_mono {j j' : Nat} (h : j ≤ j') : cu n sel l j ≤ cu n sel l j' := by
  refine List.countP_mono_left fun a _ => ?_
  simp only [Bool.and_eq_true, decide_eq_true_eq]
  rintro ⟨h1, h2⟩
  exact ⟨h1, by omega⟩
theorem c1_take_lt {k : Nat} {a : PArc} {j : Nat} (hk : l[k]? = some a) (hw : wholeB n a = true) (hj : sel a + 1 = (j : Int)) : c1 n sel (l.take k) j < c1 n sel l j := by
  have h1 : c1 n sel (l.take (k + 1)) j = c1 n sel (l.take k) j + 1 := by rw [take_snoc hk, c1_snoc, if_pos ⟨hw, hj⟩]
  have h2 : c1 n sel (l.take (k + 1)) j ≤ c1 n sel l j := (List.take_sublist (k + 1) l).countP_le
  omega
/-- What lies in the row behind k arcs. -/
def rowN (n : Nat) (sel : PArc → Int) (l : List PArc) : Nat → List Int
  | 0 => List.replicate (cu n sel l n) 0
  | k + 1 => match l[k]? with
    | some a => if wholeB n a = true then (rowN n sel l k).set (cu n sel l (sel a).toNat + c1 n sel (l.take k) ((sel a).toNat + 1)) k else rowN n sel l k
    | none => rowN n sel l k
theorem rowN_len (k : Nat) : (rowN n sel l k).length = cu n sel l n := by
  induction k with
  | zero => simp [rowN]
  | succ k ih =>
    unfold rowN
    split
    · split
      · rw [List.length_set, ih]
      · exact ih
    · exact ih
end
end Go.Proofs.Ytiboffhdabeiiaa
