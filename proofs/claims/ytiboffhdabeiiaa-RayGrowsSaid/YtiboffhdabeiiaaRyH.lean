/-
  Chapter 12: plain laws of flows along what goes round.
-/
import Derived.Test.YtiboffhdabeiiaaRyG
namespace Go.Proofs.Ytiboffhdabeiiaa
open Go Go.RowKit
theorem cntJ_rIdx (b : Nat) (j : Nat) : ∀ m, cntJ (rIdx b m) j = if b ≤ j ∧ j < b + m then 1 else 0 := by
  intro m
  induction m with
  | zero =>
    rw [if_neg (by omega)]
    rfl
  | succ m ih =>
    rw [rIdx_succ, show cntJ (rIdx b m ++ [((b + m : Nat) : Int)]) j = cntJ (rIdx b m) j + cntJ [((b + m : Nat) : Int)] j by simp [cntJ], ih]
    rw [show cntJ [((b + m : Nat) : Int)] j = if b + m = j then 1 else 0 by simp [cntJ, List.countP_cons]; rfl]
    (repeat' split) <;> omega
theorem grown_getD (y : List Int) (b m : Nat) (n : Int) (j : Nat) (hj : j < y.length) : (alongL y (rIdx b m) n).getD j 0 = y.getD j 0 + if b ≤ j ∧ j < b + m then n else 0 := by
  rw [getD_at (alongL_at y (rIdx b m) n j hj), cntJ_rIdx]
  split <;> simp
section
variable {b m : Nat} {A : List PArc} {y z : List Int} {n : Int} (hr : RingAt b m A) (hlo : ∀ a, a < b → z.getD a 0 = y.getD a 0) (hhi : ∀ j, j < m → z.getD (b + j) 0 = y.getD (b + j) 0 + n)
include hr hlo
theorem grow_low (j a : Nat) (ha : a ≤ b) : netV j A z a = netV j A y a ∧ costN A z a = costN A y a := by
  induction a with
  | zero => exact ⟨rfl, rfl⟩
  | succ a ih =>
    have hl := hr.1
    obtain ⟨q, hq⟩ := at_ (l := A) (k := a) (by omega)
    rw [netV_succ hq, netV_succ hq, costN_succ hq, costN_succ hq, (ih (by omega)).1, (ih (by omega)).2, hlo a (by omega)]
    exact ⟨rfl, rfl⟩
include hhi
theorem grow_cost (t : Nat) (ht : t ≤ m) : costN A z (b + t) = costN A y (b + t) + sumA A (rIdx b t) * n := by
  induction t with
  | zero =>
    rw [show sumA A (rIdx b 0) = 0 from rfl, Int.zero_mul]
    have := (grow_low hr hlo 0 b (Nat.le_refl _)).2
    simpa using this
  | succ t ih =>
    obtain ⟨a, h1, h2, h3⟩ := hr.2 t (by omega)
    have hl := hr.1
    rw [← Nat.add_assoc, costN_succ h1, costN_succ h1, ih (by omega), hhi t (by omega), rIdx_succ, sumA_snoc, if_pos (by omega), rArc_nat, getD_at h1, Int.mul_add, Int.add_mul]
    omega
theorem grow_net (j t : Nat) (ht : t < m) : netV j A z (b + t) = netV j A y (b + t) + (if j = 0 then n else 0) - (if j = t then n else 0) := by
  induction t with
  | zero =>
    have := (grow_low hr hlo j b (Nat.le_refl _)).1
    simp only [Nat.add_zero, this]
    omega
  | succ t ih =>
    obtain ⟨a, h1, h2, h3⟩ := hr.2 t (by omega)
    rw [← Nat.add_assoc, netV_succ h1, netV_succ h1, ih (by omega), hhi t (by omega), h2, h3]
    have e1 : ((t : Int)).toNat = t := Int.toNat_natCast t
    have e2 : (((t : Int) + 1) % (m : Int)).toNat = t + 1 := by
      rw [Int.emod_eq_of_lt (by omega) (by omega)]
      omega
    rw [e1, e2]
    (repeat' split) <;> omega
theorem grow_all (j : Nat) (hm : 0 < m) : netV j A z (b + m) = netV j A y (b + m) := by
  obtain ⟨t, rfl⟩ : ∃ t, m = t + 1 := ⟨m - 1, by omega⟩
  obtain ⟨a, h1, h2, h3⟩ := hr.2 t (by omega)
  rw [show b + (t + 1) = b + t + 1 from rfl, netV_succ h1, netV_succ h1, grow_net hr hlo hhi j t (by omega), hhi t (by omega), h2, h3]
  have e1 : ((t : Int)).toNat = t := Int.toNat_natCast t
  have e2 : (((t : Int) + 1) % ((t + 1 : Nat) : Int)).toNat = 0 := by
    rw [show ((t : Int) + 1) = ((t + 1 : Nat) : Int) by omega, Int.emod_self]
    rfl
  rw [e1, e2]
  (repeat' split) <;> omega
end
theorem wrong_whole {a : PArc} {N : Nat} (h : wrongN a N = 0) : wholeB N a = true := by
  unfold wrongN at h
  split at h
  · rename_i hn
    simp [nodeB] at hn
    simp [wholeB]
    omega
  · omega
theorem fits_grown {s : List Int} {b m : Nat} {A : List PArc} {y : List Int} {n : Int} (hr : RingAt b m A) (hm : 0 < m) (hA : A.length = b + m) (hw : ∀ a ∈ A, wrongN a s.length = 0) (hinf : ∀ j, j < m → ∀ a, A[b + j]? = some a → a.ca = 4611686018427387904) (hn : 0 ≤ n) (h : fitsN s A y = 0) : fitsN s A (alongL y (rIdx b m) n) = 0 := by
  obtain ⟨f1, f2, f3, f4⟩ := fitsN_zero h
  have hl := alongL_len y (rIdx b m) n
  have hg := fun j hj => grown_getD y b m n j hj
  have hat := fun j (hj : j < y.length) => at_ (l := alongL y (rIdx b m) n) (k := j) (by omega)
  generalize alongL y (rIdx b m) n = z at *
  have hlo : ∀ a, a < b → z.getD a 0 = y.getD a 0 := fun a ha => by rw [hg a (by omega), if_neg (by omega)]; omega
  have hhi : ∀ j, j < m → z.getD (b + j) 0 = y.getD (b + j) 0 + n := fun j hj => by rw [hg (b + j) (by omega), if_pos (by omega)]
  have hwh : ∀ a ∈ A, wholeB s.length a = true := fun a ha => wrong_whole (hw a ha)
  have g1 : flowB A z = true := by
    unfold flowB at f3 ⊢
    rw [zall] at f3 ⊢
    intro k a v hk hv
    have hkl := (List.getElem?_eq_some_iff.1 hk).1
    obtain ⟨u, hu⟩ := at_ (l := y) (k := k) (by omega)
    have h1 := f3 k a u hk hu
    have h2 := hg k (by omega)
    rw [getD_at hv, getD_at hu] at h2
    unfold fitB at h1 ⊢
    simp only [decide_eq_true_eq] at h1 ⊢
    by_cases hb : b ≤ k
    · rw [if_pos (by omega)] at h2
      have := hinf (k - b) (by omega) a (by rw [show b + (k - b) = k by omega]; exact hk)
      omega
    · rw [if_neg (by omega)] at h2
      omega
  have g2 : netB s A z = true := by
    rw [netB_iff hwh] at f4 ⊢
    intro v hv
    have := f4 v hv
    rw [hA] at this ⊢
    rw [grow_all hr hlo hhi v hm]
    exact this
  unfold fitsN
  rw [if_neg (by omega), if_neg (by omega), g1, g2]
  rfl
theorem cost_grown {b m : Nat} {A : List PArc} {y : List Int} {n : Int} (hr : RingAt b m A) (hA : A.length = b + m) (hy : y.length = A.length) : costN A (alongL y (rIdx b m) n) A.length = costN A y A.length + sumA A (rIdx b m) * n := by
  have hg := fun j hj => grown_getD y b m n j hj
  have hlo : ∀ a, a < b → (alongL y (rIdx b m) n).getD a 0 = y.getD a 0 := fun a ha => by rw [hg a (by omega), if_neg (by omega)]; omega
  have hhi : ∀ j, j < m → (alongL y (rIdx b m) n).getD (b + j) 0 = y.getD (b + j) 0 + n := fun j hj => by rw [hg (b + j) (by omega), if_pos (by omega)]
  rw [hA]
  exact grow_cost hr hlo hhi m (Nat.le_refl _)
theorem costN_bd {A : List PArc} {y : List Int} {C V : Int} (h0 : 0 ≤ C * V) (hA : ∀ a ∈ A, -C ≤ a.co ∧ a.co ≤ C) (hy : ∀ k, -V ≤ y.getD k 0 ∧ y.getD k 0 ≤ V) (k : Nat) : -(C * V * (k : Int)) ≤ costN A y k ∧ costN A y k ≤ C * V * k := by
  induction k with
  | zero => exact ⟨by simp [costN], by simp [costN]⟩
  | succ k ih =>
    rw [show C * V * ((k + 1 : Nat) : Int) = C * V * (k : Int) + C * V by rw [Int.natCast_add, Int.mul_add]; simp]
    rw [costN]
    split
    · rename_i a ha
      have := mulB (hA a (List.mem_of_getElem? ha)) (hy k)
      omega
    · omega
theorem ring_true {A : List PArc} {r : List Int} (h : ringB A r = true) (hS : -1000 ≤ sumA A r ∧ sumA A r ≤ 1000) : (∀ a ∈ r, (rArc A a).ca = 4611686018427387904) ∧ sumA A r < 0 := by
  unfold ringB at h
  simp only [Bool.and_eq_true] at h
  obtain ⟨_, _, _, h4, h5⟩ := h
  refine ⟨fun a ha => ?_, ?_⟩
  · have := any_false' (p := infB A) (l := r) (by simpa using h4) a ha
    unfold infB at this
    simpa using this
  · rw [cn_in (n := sumA A r) (by omega) (by omega), cn_in (n := 0) (by omega) (by omega)] at h5
    unfold cmpI at h5
    by_cases h : sumA A r < 0
    · exact h
    · rw [if_neg h] at h5
      split at h5 <;> simp at h5
theorem turns_zero {s : List Int} {A : List PArc} {r : List Int} (h : turnsN s A r = 0) : rightN s A = 0 ∧ ringB A r = true := by
  unfold turnsN at h
  split at h
  · omega
  · split at h
    · omega
    · split at h
      · exact ⟨by omega, by assumption⟩
      · omega
end Go.Proofs.Ytiboffhdabeiiaa
