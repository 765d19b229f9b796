/-
  flow: plain laws: more along arcs that go round.
-/
import Derived.Test.YtiboffhdabeiiaaFlI
import Derived.Test.YtiboffhdabeiiaaFlK
namespace Go.Proofs.Ytiboffhdabeiiaa
open Go Go.RowKit
def ringA (k j : Nat) : PArc := ⟨j, (((j + 1) % k : Nat) : Int), 0, 4611686018427387904, 1⟩
def ring (k : Nat) : List PArc := (List.range k).map (ringA k)
theorem ring_len (k : Nat) : (ring k).length = k := by simp [ring]
theorem ring_at {k j : Nat} (h : j < k) : (ring k)[j]? = some (ringA k j) := by
  unfold ring
  rw [List.getElem?_map, List.getElem?_range h]
  rfl
theorem app_ring {l : List PArc} {k t : Nat} (h : t < k) : (l ++ ring k)[l.length + t]? = some (ringA k t) := by
  rw [List.getElem?_append_right (by omega), show l.length + t - l.length = t by omega]
  exact ring_at h
theorem app_left {l : List PArc} {k t : Nat} (h : t < l.length) : (l ++ ring k)[t]? = l[t]? := List.getElem?_append_left h
theorem round_low {l : List PArc} {k : Nat} {y z : List Int} (hy : ∀ a, a < l.length → z.getD a 0 = y.getD a 0) (j a : Nat) (ha : a ≤ l.length) : netV j (l ++ ring k) z a = netV j (l ++ ring k) y a ∧ costN (l ++ ring k) z a = costN (l ++ ring k) y a := by
  induction a with
  | zero => exact ⟨rfl, rfl⟩
  | succ a ih =>
    obtain ⟨i1, i2⟩ := ih (by omega)
    obtain ⟨b, hb⟩ := at_ (l := l) (k := a) (by omega)
    have hb2 : (l ++ ring k)[a]? = some b := by rw [app_left (by omega), hb]
    rw [netV_succ hb2, netV_succ hb2, costN_succ hb2, costN_succ hb2, hy a (by omega), i1, i2]
    exact ⟨rfl, rfl⟩
section
variable {l : List PArc} {k : Nat} {y z : List Int} {n : Int} (hy : ∀ a, a < l.length → z.getD a 0 = y.getD a 0) (hz : ∀ a, l.length ≤ a → a < l.length + k → z.getD a 0 = y.getD a 0 + n)
include hy hz
theorem round_cost (t : Nat) (ht : t ≤ k) : costN (l ++ ring k) z (l.length + t) = costN (l ++ ring k) y (l.length + t) + n * t := by
  induction t with
  | zero => rw [show l.length + 0 = l.length from rfl, (round_low hy 0 l.length (Nat.le_refl _)).2]; simp
  | succ t ih =>
    have hb := app_ring (l := l) (show t < k by omega)
    rw [show l.length + (t + 1) = l.length + t + 1 from rfl, costN_succ hb, costN_succ hb, hz _ (by omega) (by omega), ih (by omega)]
    simp only [ringA, Int.one_mul]
    rw [show n * ((t + 1 : Nat) : Int) = n * t + n by push_cast; rw [Int.mul_add, Int.mul_one]]
    omega
theorem round_net (j t : Nat) (ht : t < k) : netV j (l ++ ring k) z (l.length + t) = netV j (l ++ ring k) y (l.length + t) + (if j = 0 then n else 0) - (if j = t then n else 0) := by
  induction t with
  | zero =>
    rw [show l.length + 0 = l.length from rfl, (round_low hy j l.length (Nat.le_refl _)).1]
    omega
  | succ t ih =>
    have hb := app_ring (l := l) (show t < k by omega)
    rw [show l.length + (t + 1) = l.length + t + 1 from rfl, netV_succ hb, netV_succ hb, hz _ (by omega) (by omega), ih (by omega)]
    have e1 : (ringA k t).fr.toNat = t := by simp [ringA]
    have e2 : (ringA k t).dt.toNat = t + 1 := by
      show (((t + 1) % k : Nat) : Int).toNat = t + 1
      rw [Nat.mod_eq_of_lt ht]
      omega
    rw [e1, e2]
    (repeat' split) <;> omega
theorem round_all (j : Nat) (hk : 0 < k) : netV j (l ++ ring k) z (l.length + k) = netV j (l ++ ring k) y (l.length + k) := by
  obtain ⟨t, rfl⟩ : ∃ t, k = t + 1 := ⟨k - 1, by omega⟩
  have hb := app_ring (l := l) (show t < t + 1 by omega)
  rw [show l.length + (t + 1) = l.length + t + 1 from rfl, netV_succ hb, netV_succ hb, hz _ (by omega) (by omega), round_net hy hz j t (by omega)]
  have e1 : (ringA (t + 1) t).fr.toNat = t := by simp [ringA]
  have e2 : (ringA (t + 1) t).dt.toNat = 0 := by
    show (((t + 1) % (t + 1) : Nat) : Int).toNat = 0
    rw [Nat.mod_self]
    rfl
  rw [e1, e2]
  (repeat' split) <;> omega
end
end Go.Proofs.Ytiboffhdabeiiaa
