/-
  Plain laws of prices: what flows cost, and what prices tell.
-/
import Derived.Test.YtiboffhdabeiiaaPrC
import Derived.Test.YtiboffhdabeiiaaCtI
namespace Go.Proofs.Ytiboffhdabeiiaa
open Go Go.RowKit
/-- What one more along an arc costs, at prices. -/
def rd (pot : List Int) (a : PArc) : Int := a.co - po pot a.fr.toNat + po pot a.dt.toNat
theorem tmV_rd (pot : List Int) (a : PArc) (n : Int) : tmV a (po pot a.fr.toNat) (po pot a.dt.toNat) n = n * rd pot a := by
  unfold tmV rd
  rw [Int.mul_add, Int.mul_sub]
def sgA (pot : List Int) (a : PArc) : Int := sgV a (po pot a.fr.toNat) (po pot a.dt.toNat)
theorem sgA_rd {pot : List Int} {a : PArc} (hp : ∀ n, i64 (po pot n)) (hc : i64 a.co) : (sgA pot a < 0 ↔ rd pot a < 0) ∧ (0 < sgA pot a ↔ 0 < rd pot a) := by
  have h1 := hp a.fr.toNat
  have h2 := hp a.dt.toNat
  have e : sgA pot a = cmpI (cn (rd pot a)) (cn 0) := by
    unfold sgA sgV
    rw [tmV_rd, Int.one_mul]
  have hr : cn (rd pot a) = rd pot a := by
    unfold rd i64 at *
    exact cn_in (by omega) (by omega)
  rw [e, hr, show cn 0 = 0 by decide]
  unfold cmpI
  (repeat' split) <;> omega
/-- As much as is at least, or at most, along an arc, as prices tell. -/
def ndA (pot : List Int) (a : PArc) : Int := if sgA pot a < 0 then a.ca else a.lo
def supP (pot : List Int) (s : List Int) : Nat → Int
  | 0 => 0
  | k + 1 => supP pot s k + s.getD k 0 * po pot k
theorem supP_sumN (pot s : List Int) (k : Nat) : supP pot s k = sumN (fun v => po pot v * s.getD v 0) k := by
  induction k with
  | zero => rfl
  | succ k ih => rw [supP, sumN, ih, Int.mul_comm]
def bndV (pot s : List Int) (l : List PArc) : Nat → Int
  | 0 => supP pot s s.length
  | k + 1 => match l[k]? with
    | some a => if wholeB s.length a = true then bndV pot s l k + tmV a (po pot a.fr.toNat) (po pot a.dt.toNat) (ndA pot a) else bndV pot s l k
    | none => bndV pot s l k
theorem bndV_yes {pot s : List Int} {l : List PArc} {k : Nat} {a : PArc} (h : l[k]? = some a) (hw : wholeB s.length a = true) : bndV pot s l (k + 1) = bndV pot s l k + tmV a (po pot a.fr.toNat) (po pot a.dt.toNat) (ndA pot a) := by rw [bndV, h]; dsimp only; rw [if_pos hw]
theorem bndV_no {pot s : List Int} {l : List PArc} {k : Nat} {a : PArc} (h : l[k]? = some a) (hw : wholeB s.length a = false) : bndV pot s l (k + 1) = bndV pot s l k := by rw [bndV, h]; dsimp only; rw [if_neg (by rw [hw]; decide)]
/-- Whether prices tell nothing. -/
def noB (N : Nat) (pot : List Int) (l : List PArc) : Bool := l.any fun a => wholeB N a && decide (ndA pot a = 4611686018427387904)
/-- What flows cost is what nodes pay, and what arcs cost at prices. -/
def redW (pot : List Int) (l : List PArc) (x : List Int) : Nat → Int
  | 0 => 0
  | k + 1 => match l[k]? with
    | some a => redW pot l x k + x.getD k 0 * rd pot a
    | none => redW pot l x k
theorem redW_succ {pot : List Int} {l : List PArc} {x : List Int} {k : Nat} {a : PArc} (h : l[k]? = some a) : redW pot l x (k + 1) = redW pot l x k + x.getD k 0 * rd pot a := by rw [redW, h]
theorem cost_parts (pot : List Int) (l : List PArc) (x : List Int) (k : Nat) : costN l x k = arcW (po pot) l x k + redW pot l x k := by
  induction k with
  | zero => rfl
  | succ k ih =>
    cases h : l[k]? with
    | none =>
      rw [costN, arcW, redW, h]
      exact ih
    | some a =>
      rw [costN_succ h, arcW_succ h, redW_succ h, ih]
      have : x.getD k 0 * (po pot a.fr.toNat - po pot a.dt.toNat) + x.getD k 0 * rd pot a = a.co * x.getD k 0 := by
        rw [← Int.mul_add, Int.mul_comm a.co]
        congr 1
        unfold rd
        omega
      omega
theorem supP_fits {pot s : List Int} {l : List PArc} {x : List Int} (hw : ∀ a ∈ l, wholeB s.length a = true) (hn : ∀ v, v < s.length → netV v l x l.length = s.getD v 0) : arcW (po pot) l x l.length = supP pot s s.length := by
  rw [supP_sumN, ← net_weigh (po pot) hw l.length]
  exact sumN_congr fun v hv => by rw [hn v hv]
/-- Arc by arc: what prices tell is no more; it is as much where there is no slack. -/
theorem arc_bound {pot x : List Int} {k : Nat} {a : PArc} (hp : ∀ n, i64 (po pot n)) (hc : i64 a.co) (hfit : a.lo ≤ x.getD k 0 ∧ (a.ca = 4611686018427387904 ∨ x.getD k 0 ≤ a.ca)) (hnd : ndA pot a ≠ 4611686018427387904) :
    ndA pot a * rd pot a ≤ x.getD k 0 * rd pot a ∧ (ndA pot a * rd pot a = x.getD k 0 * rd pot a ↔ skB pot x k a = false) := by
  obtain ⟨h1, h2⟩ := sgA_rd (a := a) hp hc
  have hsk : skB pot x k a = ((decide (0 < sgA pot a) && decide (x.getD k 0 ≠ a.lo)) || (decide (sgA pot a < 0) && (decide (x.getD k 0 ≠ a.ca) || decide (a.ca = 4611686018427387904)))) := rfl
  rw [hsk]
  unfold ndA at *
  generalize sgA pot a = g at *
  generalize x.getD k 0 = n at *
  generalize rd pot a = r at *
  have mono : ∀ (p q : Int), 0 < r → p < q → p * r < q * r := fun p q hr h => Int.mul_lt_mul_of_pos_right h hr
  have anti : ∀ (p q : Int), r < 0 → p < q → q * r < p * r := fun p q hr h => Int.mul_lt_mul_of_neg_right h hr
  by_cases hg : g < 0
  · rw [if_pos hg] at hnd ⊢
    have hr := h1.1 hg
    have hle : n ≤ a.ca := by omega
    rcases Int.lt_or_eq_of_le hle with h | h
    · have := anti n a.ca hr h
      refine ⟨by omega, ?_⟩
      simp only [hg, decide_true, Bool.true_and, hnd, decide_false, Bool.or_false, Bool.or_eq_false_iff, decide_eq_false_iff_not]
      constructor
      · intro e; omega
      · rintro ⟨_, e⟩; exact absurd (by omega) e
    · subst h
      refine ⟨Int.le_refl _, ?_⟩
      simp [hnd]
      omega
  · rw [if_neg hg] at hnd ⊢
    by_cases hg2 : 0 < g
    · have hr := h2.1 hg2
      rcases Int.lt_or_eq_of_le hfit.1 with h | h
      · have := mono a.lo n hr h
        refine ⟨by omega, ?_⟩
        simp only [hg, hg2, decide_true, Bool.true_and, decide_false, Bool.false_and, Bool.or_false, decide_eq_false_iff_not]
        constructor
        · intro e; omega
        · intro e; exact absurd (by omega) e
      · rw [h]
        refine ⟨Int.le_refl _, ?_⟩
        simp [hg]
    · have hr : r = 0 := by omega
      subst hr
      simp [hg, hg2]
theorem all_bound {pot s : List Int} {l : List PArc} {x : List Int} (hp : ∀ n, i64 (po pot n)) (hc : ∀ a ∈ l, i64 a.co) (hw : ∀ a ∈ l, wholeB s.length a = true) (hf : fitsN s l x = 0) (hnd : ∀ a ∈ l, ndA pot a ≠ 4611686018427387904) (k : Nat) (hk : k ≤ l.length) :
    bndV pot s l k ≤ supP pot s s.length + redW pot l x k ∧ (bndV pot s l k = supP pot s s.length + redW pot l x k ↔ ∀ (j : Nat) a, j < k → l[j]? = some a → skB pot x j a = false) := by
  induction k with
  | zero =>
    refine ⟨by rw [bndV, redW]; omega, ?_⟩
    rw [bndV, redW]
    constructor
    · intro _ j a hj
      omega
    · intro _
      omega
  | succ k ih =>
    obtain ⟨a, ha⟩ := at_ (l := l) (k := k) (by omega)
    have hm := List.mem_of_getElem? ha
    obtain ⟨i1, i2⟩ := ih (by omega)
    obtain ⟨b1, b2⟩ := arc_bound (x := x) (k := k) hp (hc a hm) (fit_one hf ha) (hnd a hm)
    rw [bndV_yes ha (hw a hm), redW_succ ha, tmV_rd]
    refine ⟨by omega, ?_⟩
    constructor
    · intro e j b hj hb
      by_cases hjk : j < k
      · exact (i2.1 (by omega)) j b hjk hb
      · obtain rfl : j = k := by omega
        rw [ha] at hb
        injection hb with hb
        subst hb
        exact b2.1 (by omega)
    · intro e
      have e1 := i2.2 (fun j b hj hb => e j b (by omega) hb)
      have e2 := b2.2 (e k a (by omega) ha)
      omega
end Go.Proofs.Ytiboffhdabeiiaa
