/-
  Numbers of 128 bits: what a pair of words stands for. Plain lemmas, no program in sight.
-/
import Derived.Test.YtiboffhdabeiiaaSxP
namespace Go.Proofs.Ytiboffhdabeiiaa
open Go Go.RowKit
structure PW where
  hi : Int
  lo : Int
deriving DecidableEq
@[ext] theorem PW.ext {a b : PW} (h1 : a.hi = b.hi) (h2 : a.lo = b.lo) : a = b := by cases a; cases b; simp at h1 h2; simp [h1, h2]
/-- The number, going round at 2^128. -/
def toW (n : Int) : PW := ⟨(n / 18446744073709551616 + 9223372036854775808) % 18446744073709551616 - 9223372036854775808, n % 18446744073709551616⟩
def ofW (p : PW) : Int := p.hi * 18446744073709551616 + p.lo
def okW (p : PW) : Prop := -9223372036854775808 ≤ p.hi ∧ p.hi ≤ 9223372036854775807 ∧ 0 ≤ p.lo ∧ p.lo < 18446744073709551616
/-- As it reads with a sign. -/
def cn (n : Int) : Int := (n + 170141183460469231731687303715884105728) % 340282366920938463463374607431768211456 - 170141183460469231731687303715884105728
theorem cn_in {n : Int} (h1 : -170141183460469231731687303715884105728 ≤ n) (h2 : n < 170141183460469231731687303715884105728) : cn n = n := by unfold cn; omega
theorem cn_range (n : Int) : -170141183460469231731687303715884105728 ≤ cn n ∧ cn n < 170141183460469231731687303715884105728 := by unfold cn; omega
theorem toW_ofW {p : PW} (h : okW p) : toW (ofW p) = p := by
  obtain ⟨h1, h2, h3, h4⟩ := h
  apply PW.ext <;> simp only [toW, ofW] <;> omega
theorem ofW_toW (n : Int) : ofW (toW n) = cn n := by simp only [toW, ofW, cn]; omega
theorem toW_ok (n : Int) : okW (toW n) := by simp only [toW, okW]; omega
theorem toW_cn (n : Int) : toW (cn n) = toW n := by apply PW.ext <;> simp only [toW, cn] <;> omega
theorem toW_eq {a b : Int} : toW a = toW b ↔ cn a = cn b := by
  constructor
  · intro h
    rw [← ofW_toW, h, ofW_toW]
  · intro h
    rw [← toW_cn, h, toW_cn]
theorem toW_congr {a b : Int} (h : (a - b) % 340282366920938463463374607431768211456 = 0) : toW a = toW b := by
  rw [toW_eq]
  unfold cn
  omega
theorem toW_eq' {a b : Int} : toW a = toW b ↔ (a - b) % 340282366920938463463374607431768211456 = 0 := by
  constructor
  · intro h
    have := toW_eq.1 h
    unfold cn at this
    omega
  · exact toW_congr
theorem cn_congr {a b : Int} (h : (a - b) % 340282366920938463463374607431768211456 = 0) : cn a = cn b := toW_eq.1 (toW_congr h)
theorem cn_idem (a : Int) : cn (cn a) = cn a := by unfold cn; omega
/-- Which of two is greater. -/
def cmpI (a b : Int) : Int := if a < b then -1 else if b < a then 1 else 0
theorem cmpI_cases (a b : Int) : (a < b ∧ cmpI a b = -1) ∨ (a = b ∧ cmpI a b = 0) ∨ (b < a ∧ cmpI a b = 1) := by unfold cmpI; (repeat' split) <;> omega
theorem cmp_words (a b : Int) : cmpI (cn a) (cn b) = if (toW a).hi = (toW b).hi then cmpI (toW a).lo (toW b).lo else cmpI (toW a).hi (toW b).hi := by
  have h1 := ofW_toW a
  have h2 := ofW_toW b
  have h3 := toW_ok a
  have h4 := toW_ok b
  unfold okW at h3 h4
  unfold ofW at h1 h2
  rw [← h1, ← h2]
  generalize toW a = x at *
  generalize toW b = y at *
  unfold cmpI
  (repeat' split) <;> omega
/-- A number of 64 bits, wide; and the way back. -/
theorem of_word {a : Int} (h1 : -9223372036854775808 ≤ a) (h2 : a ≤ 9223372036854775807) : toW a = ⟨a / 9223372036854775808, a % 18446744073709551616⟩ := by
  apply PW.ext <;> simp only [toW] <;> omega
def back (a : Int) : Int × Bool := if -9223372036854775808 ≤ cn a ∧ cn a ≤ 9223372036854775807 then (cn a, true) else (0, false)
/-- A product of words, and what signs change. -/
theorem mul_words {a b : Int} (ha1 : -9223372036854775808 ≤ a) (ha2 : a ≤ 9223372036854775807) (hb1 : -9223372036854775808 ≤ b) (hb2 : b ≤ 9223372036854775807) {u v : Int} (hu : u = a % 18446744073709551616) (hv : v = b % 18446744073709551616)
    {s t : Int} (hs : s = if a < 0 then v else 0) (ht : t = if b < 0 then u else 0) : toW (a * b) = toW ((u * v / 18446744073709551616 - s - t) * 18446744073709551616 + u * v % 18446744073709551616) := by
  have e : u * v = (if a < 0 then a + 18446744073709551616 else a) * (if b < 0 then b + 18446744073709551616 else b) := by
    rw [hu, hv]
    congr 1 <;> split <;> omega
  have hu' : u = if a < 0 then a + 18446744073709551616 else a := by split <;> omega
  have hv' : v = if b < 0 then b + 18446744073709551616 else b := by split <;> omega
  apply toW_congr
  by_cases h1 : a < 0 <;> by_cases h2 : b < 0
  · simp only [h1, h2, if_true] at e hs ht hu' hv'
    have e2 : u * v = a * b + a * 18446744073709551616 + 18446744073709551616 * b + 18446744073709551616 * 18446744073709551616 := by
      rw [e, Int.add_mul, Int.mul_add, Int.mul_add]; omega
    generalize u * v = m at *
    generalize a * b = p at *
    omega
  · simp only [h1, h2, if_true, if_false] at e hs ht hu' hv'
    have e2 : u * v = a * b + 18446744073709551616 * b := by rw [e, Int.add_mul]
    generalize u * v = m at *
    generalize a * b = p at *
    omega
  · simp only [h1, h2, if_true, if_false] at e hs ht hu' hv'
    have e2 : u * v = a * b + a * 18446744073709551616 := by rw [e, Int.mul_add]
    generalize u * v = m at *
    generalize a * b = p at *
    omega
  · simp only [h1, h2, if_false] at e hs ht hu' hv'
    generalize u * v = m at *
    generalize a * b = p at *
    omega
/-- Wide numbers as elements of a row. -/
def eWide : Enc PW where
  size := 2
  enc a := [.int .i64 a.hi, .int .u64 a.lo]
  dec | [.int .i64 a, .int .u64 b] => some ⟨a, b⟩
      | _ => none
  zero := ⟨0, 0⟩
  len _ := rfl
  pos := by decide
  one := by
    intro a u hu
    simp only [List.mem_cons, List.not_mem_nil, or_false] at hu
    rcases hu with rfl | rfl <;> rfl
  decL := by
    intro l a h
    split at h
    · injection h with h; subst h; rfl
    · cases h
@[reducible] def wS (p : PW) : SV := .agg [.v (.int .i64 p.hi), .v (.int .u64 p.lo)]
@[reducible] def wd (n : Int) : SV := .agg [.v (.int .i64 (toW n).hi), .v (.int .u64 (toW n).lo)]
@[reducible] def uv (n : Int) : SV := .v (.int .u64 n)
@[reducible] def bv (b : Bool) : SV := .v (.bool b)
end Go.Proofs.Ytiboffhdabeiiaa
