/-
  Plain laws: what nodes send, weighed: a sum over nodes is one over arcs.
-/
import Derived.Test.YtiboffhdabeiiaaCtG
namespace Go.Proofs.Ytiboffhdabeiiaa
open Go Go.RowKit
def sumN (f : Nat → Int) : Nat → Int
  | 0 => 0
  | n + 1 => sumN f n + f n
theorem sumN_congr {f g : Nat → Int} {N : Nat} (h : ∀ v, v < N → f v = g v) : sumN f N = sumN g N := by
  induction N with
  | zero => rfl
  | succ N ih => rw [sumN, sumN, ih (fun v hv => h v (by omega)), h N (by omega)]
theorem sumN_add (f g : Nat → Int) (N : Nat) : sumN (fun v => f v + g v) N = sumN f N + sumN g N := by
  induction N with
  | zero => rfl
  | succ N ih => rw [sumN, sumN, sumN, ih]; omega
theorem sumN_sub (f g : Nat → Int) (N : Nat) : sumN (fun v => f v - g v) N = sumN f N - sumN g N := by
  induction N with
  | zero => rfl
  | succ N ih => rw [sumN, sumN, sumN, ih]; omega
theorem sumN_zero (N : Nat) : sumN (fun _ => 0) N = 0 := by
  induction N with
  | zero => rfl
  | succ N ih => rw [sumN, ih]; rfl
theorem sumN_delta (p : Nat → Int) (i : Nat) (w : Int) (N : Nat) : sumN (fun v => p v * (if i = v then w else 0)) N = if i < N then p i * w else 0 := by
  induction N with
  | zero => rfl
  | succ N ih =>
    rw [sumN, ih]
    by_cases h : i = N
    · subst h
      rw [if_neg (by omega), if_pos rfl, if_pos (by omega)]
      omega
    · rw [if_neg h, Int.mul_zero, Int.add_zero]
      by_cases h2 : i < N
      · rw [if_pos h2, if_pos (by omega)]
      · rw [if_neg h2, if_neg (by omega)]
/-- Over arcs: what flows, by the weights of the ends. -/
def arcW (p : Nat → Int) (l : List PArc) (x : List Int) : Nat → Int
  | 0 => 0
  | k + 1 => match l[k]? with
    | some a => arcW p l x k + x.getD k 0 * (p a.fr.toNat - p a.dt.toNat)
    | none => arcW p l x k
theorem arcW_succ {p : Nat → Int} {l : List PArc} {x : List Int} {k : Nat} {a : PArc} (h : l[k]? = some a) : arcW p l x (k + 1) = arcW p l x k + x.getD k 0 * (p a.fr.toNat - p a.dt.toNat) := by rw [arcW, h]
theorem net_weigh (p : Nat → Int) {N : Nat} {l : List PArc} {x : List Int} (hw : ∀ a ∈ l, wholeB N a = true) (k : Nat) : sumN (fun v => p v * netV v l x k) N = arcW p l x k := by
  induction k with
  | zero =>
    rw [arcW, sumN_congr (g := fun _ => 0) (fun v _ => by simp [netV]), sumN_zero]
  | succ k ih =>
    cases h : l[k]? with
    | none =>
      rw [arcW, h]
      rw [sumN_congr (g := fun v => p v * netV v l x k) (fun v _ => by rw [netV, h]), ih]
    | some a =>
      have hwa := hw a (List.mem_of_getElem? h)
      simp only [wholeB, decide_eq_true_eq] at hwa
      rw [arcW_succ h, ← ih]
      rw [sumN_congr (g := fun v => (p v * netV v l x k + p v * (if a.fr.toNat = v then x.getD k 0 else 0)) - p v * (if a.dt.toNat = v then x.getD k 0 else 0)) (fun v _ => by rw [netV_succ h, Int.mul_sub, Int.mul_add])]
      rw [sumN_sub, sumN_add, sumN_delta, sumN_delta, if_pos (by omega), if_pos (by omega), Int.mul_sub, Int.mul_comm (x.getD k 0), Int.mul_comm (x.getD k 0)]
      omega
end Go.Proofs.Ytiboffhdabeiiaa
