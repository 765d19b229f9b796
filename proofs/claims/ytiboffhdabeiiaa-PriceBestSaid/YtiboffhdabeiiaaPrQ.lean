/-
  Plain laws of prices: bounds of what is told; what slack tells.
-/
import Derived.Test.YtiboffhdabeiiaaPrD
namespace Go.Proofs.Ytiboffhdabeiiaa
open Go Go.RowKit
theorem mul_bnd {a b A B : Int} (h1 : -A ≤ a ∧ a ≤ A) (h2 : -B ≤ b ∧ b ≤ B) : -(A * B) ≤ a * b ∧ a * b ≤ A * B := by
  have k1 : a.natAbs ≤ A.toNat := by omega
  have k2 : b.natAbs ≤ B.toNat := by omega
  have k3 := Nat.mul_le_mul k1 k2
  rw [← Int.natAbs_mul] at k3
  have k4 : ((A.toNat * B.toNat : Nat) : Int) = A * B := by
    rw [Int.natCast_mul, Int.toNat_of_nonneg (by omega), Int.toNat_of_nonneg (by omega)]
  omega
/-- Arcs, and supplies, that are as they are made. -/
structure Tame (s : List Int) (l : List PArc) : Prop where
  sl : s.length ≤ 64
  ll : l.length ≤ 64
  sb : ∀ n ∈ s, -140737488355328 ≤ n ∧ n ≤ 140737488355328
  wh : ∀ a ∈ l, wholeB s.length a = true
  lo : ∀ a ∈ l, 0 ≤ a.lo ∧ a.lo ≤ 4398046511104
  ca : ∀ a ∈ l, a.ca = 4611686018427387904 ∨ (0 ≤ a.ca ∧ a.ca ≤ 4398046511104)
  co : ∀ a ∈ l, -1000 ≤ a.co ∧ a.co ≤ 1000
theorem po_i64 {pot : List Int} (h : ∀ n ∈ pot, -9223372036854775808 ≤ n ∧ n ≤ 9223372036854775807) (n : Nat) : i64 (po pot n) := getD_i64 h n
section
variable {s : List Int} {l : List PArc} {pot x : List Int}
theorem Tame.c (h : Tame s l) : ∀ a ∈ l, i64 a.co ∧ i64 a.lo ∧ i64 a.ca := fun a ha => by
  have h1 := h.lo a ha
  have h2 := h.ca a ha
  have h3 := h.co a ha
  unfold i64
  omega
theorem Tame.s64 (h : Tame s l) : ∀ n ∈ s, -9223372036854775808 ≤ n ∧ n ≤ 9223372036854775807 := fun n hn => by
  have := h.sb n hn
  omega
theorem supP_bnd (hs : ∀ n ∈ s, -140737488355328 ≤ n ∧ n ≤ 140737488355328) (hp : ∀ n, i64 (po pot n)) (k : Nat) : -(1298074214633706907132624082305024 * (k : Int)) ≤ supP pot s k ∧ supP pot s k ≤ 1298074214633706907132624082305024 * k := by
  induction k with
  | zero => simp [supP]
  | succ k ih =>
    have h1 : -140737488355328 ≤ s.getD k 0 ∧ s.getD k 0 ≤ 140737488355328 := by
      rw [List.getD_eq_getElem?_getD]
      cases hk : s[k]? with
      | none => simp
      | some n => exact hs n (List.mem_of_getElem? hk)
    have h2 := hp k
    unfold i64 at h2
    have h3 := mul_bnd (b := po pot k) (A := 140737488355328) (B := 9223372036854775808) h1 (by omega)
    rw [show (140737488355328 : Int) * 9223372036854775808 = 1298074214633706907132624082305024 by decide] at h3
    rw [supP]
    omega
theorem bndV_bnd (h : Tame s l) (hp : ∀ n, i64 (po pot n)) (hn : noB s.length pot l = false) (k : Nat) : -(1298074214633706907132624082305024 * (s.length : Int)) - 324518553658426726783156020576256 * k ≤ bndV pot s l k ∧ bndV pot s l k ≤ 1298074214633706907132624082305024 * s.length + 324518553658426726783156020576256 * k := by
  induction k with
  | zero =>
    have := supP_bnd h.sb hp s.length
    rw [bndV]
    omega
  | succ k ih =>
    cases ha : l[k]? with
    | none =>
      rw [bndV, ha]
      dsimp only
      omega
    | some a =>
      have hm := List.mem_of_getElem? ha
      have h1 := h.lo a hm
      have h2 := h.ca a hm
      have h3 := h.co a hm
      have h4 := any_false (by unfold noB at hn; rw [hn]; decide) a hm
      rw [h.wh a hm] at h4
      have h5 : ndA pot a ≠ 4611686018427387904 := by simpa using h4
      have h6 : -4398046511104 ≤ ndA pot a ∧ ndA pot a ≤ 4398046511104 := by
        unfold ndA at h5 ⊢
        split <;> rename_i hg
        · rw [if_pos hg] at h5
          omega
        · omega
      have h7 : -73786976294838206464 ≤ rd pot a ∧ rd pot a ≤ 73786976294838206464 := by
        have e1 := hp a.fr.toNat
        have e2 := hp a.dt.toNat
        unfold rd i64 at *
        omega
      have h8 := mul_bnd h6 h7
      rw [show (4398046511104 : Int) * 73786976294838206464 = 324518553658426726783156020576256 by decide] at h8
      rw [bndV_yes ha (h.wh a hm), tmV_rd]
      omega
theorem costN_bnd (h : Tame s l) (hx : ∀ n ∈ x, -9223372036854775808 ≤ n ∧ n ≤ 9223372036854775807) (k : Nat) : -(9223372036854775808000 * (k : Int)) ≤ costN l x k ∧ costN l x k ≤ 9223372036854775808000 * k := by
  induction k with
  | zero => simp [costN]
  | succ k ih =>
    cases ha : l[k]? with
    | none =>
      rw [costN, ha]
      dsimp only
      omega
    | some a =>
      have h3 := h.co a (List.mem_of_getElem? ha)
      have h4 := getD_i64 hx k
      have h8 := mul_bnd (b := x.getD k 0) (A := 1000) (B := 9223372036854775808) h3 (by omega)
      rw [show (1000 : Int) * 9223372036854775808 = 9223372036854775808000 by decide] at h8
      rw [costN_succ ha]
      omega
theorem bndV_cn (h : Tame s l) (hp : ∀ n, i64 (po pot n)) (hn : noB s.length pot l = false) : cn (bndV pot s l l.length) = bndV pot s l l.length := by
  have h1 := bndV_bnd h hp hn l.length
  have h2 := h.sl
  have h3 := h.ll
  exact cn_in (by omega) (by omega)
theorem costN_cn (h : Tame s l) (hx : ∀ n ∈ x, -9223372036854775808 ≤ n ∧ n ≤ 9223372036854775807) : cn (costN l x l.length) = costN l x l.length := by
  have h1 := costN_bnd h hx l.length
  have h3 := h.ll
  exact cn_in (by omega) (by omega)
theorem Tame.nd (hn : noB s.length pot l = false) (h : Tame s l) : ∀ a ∈ l, ndA pot a ≠ 4611686018427387904 := fun a hm => by
  have h4 := any_false (by unfold noB at hn; rw [hn]; decide) a hm
  rw [h.wh a hm] at h4
  simpa using h4
/-- No flow that fits costs less than prices tell; as much just where there is slack nowhere. -/
theorem bound_law (h : Tame s l) (hp : ∀ n, i64 (po pot n)) (hx : ∀ n ∈ x, -9223372036854775808 ≤ n ∧ n ≤ 9223372036854775807) (hf : fitsN s l x = 0) (hn : noB s.length pot l = false) :
    bndV pot s l l.length ≤ costN l x l.length ∧ (bndV pot s l l.length = costN l x l.length ↔ anyS s.length l pot x = false) := by
  have h1 := all_bound (pot := pot) hp (fun a ha => (h.c a ha).1) h.wh hf (h.nd hn) l.length (Nat.le_refl _)
  have h2 := supP_fits (pot := pot) h.wh (fits_net hf h.wh hx (by have := h.ll; omega) h.s64)
  have h3 := cost_parts pot l x l.length
  refine ⟨by omega, ?_⟩
  constructor
  · intro e
    have h4 := h1.2.1 (by omega)
    cases hb : anyS s.length l pot x with
    | false => rfl
    | true =>
      obtain ⟨k, a, e1, e2⟩ := anyS_ex hb
      rw [h4 k a (List.getElem?_eq_some_iff.1 e1).1 e1] at e2
      simp at e2
  · intro e
    have h4 := h1.2.2 (fun j a _ ha => by
      have := anyS_false e ha
      rw [h.wh a (List.mem_of_getElem? ha)] at this
      simpa using this)
    omega
/-- Where prices tell nothing, there is slack. -/
theorem slack_inf (h : Tame s l) (hn : noB s.length pot l = true) : anyS s.length l pot x = true := by
  obtain ⟨a, ha, h1⟩ := List.any_eq_true.1 hn
  obtain ⟨k, hk⟩ := List.mem_iff_getElem?.1 ha
  have h2 := h.lo a ha
  refine anyS_true hk ?_
  rw [h.wh a ha] at h1 ⊢
  simp only [Bool.true_and, decide_eq_true_eq] at h1 ⊢
  unfold ndA at h1
  split at h1
  · rename_i hg
    have hg2 : sgV a (po pot a.fr.toNat) (po pot a.dt.toNat) < 0 := hg
    unfold skB
    simp [hg2, h1]
  · omega
theorem slackN_fits (hf : fitsN s l x = 0) (hl : pot.length = s.length) : slackN s l x pot = if anyS s.length l pot x = true then 33 else 0 := by
  unfold slackN
  rw [if_neg (by simpa using hf), if_neg (by simpa using hl)]
end
end Go.Proofs.Ytiboffhdabeiiaa
