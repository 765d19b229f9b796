/-
  PriceRound; by symbolic steps.
-/
import Derived.Test.YtiboffhdabeiiaaPrE
namespace Go.Proofs.Ytiboffhdabeiiaa
open Go Go.RowKit
def costC (c : List Nat) (k : Nat) : Int := if k < c.length then ((c.getD k 0 : Nat) : Int) - 100 else k
def ringC (c : List Nat) (m k : Nat) : List PArc := (List.range k).map fun (j : Nat) => ⟨(j : Int), ((j : Int) + 1) % (m : Int), 0, 1, costC c j⟩
theorem ringC_len (c : List Nat) (m k : Nat) : (ringC c m k).length = k := by simp [ringC]
theorem ringC_succ (c : List Nat) (m k : Nat) : ringC c m (k + 1) = ringC c m k ++ [⟨k, ((k : Int) + 1) % (m : Int), 0, 1, costC c k⟩] := by simp [ringC, List.range_succ]
theorem ringC_at {c : List Nat} {m k j : Nat} (h : j < k) : (ringC c m k)[j]? = some ⟨j, ((j : Int) + 1) % (m : Int), 0, 1, costC c j⟩ := by
  unfold ringC
  rw [List.getElem?_map, List.getElem?_range h]
  rfl
def allC (c : List Nat) : Nat → Int
  | 0 => 0
  | k + 1 => allC c k + costC c k
def sumR (c : List Nat) (m : Nat) (pot : List Int) : Nat → Int
  | 0 => 0
  | k + 1 => sumR c m pot k + tmV ⟨k, ((k : Int) + 1) % (m : Int), 0, 1, costC c k⟩ (po pot ((k : Int).toNat)) (po pot ((((k : Int) + 1) % (m : Int)).toNat)) 1
theorem sumR_part (c : List Nat) (m : Nat) (pot : List Int) (k : Nat) (hk : k < m) : sumR c m pot k = allC c k - po pot 0 + po pot k := by
  induction k with
  | zero => rw [sumR, allC]; omega
  | succ k ih =>
    have e : (((k : Int) + 1) % (m : Int)).toNat = k + 1 := by
      rw [Int.emod_eq_of_lt (by omega) (by omega)]
      omega
    rw [sumR, ih (by omega), allC, e]
    simp only [tmV, Int.one_mul, Int.toNat_natCast]
    omega
theorem sumR_all (c : List Nat) (m : Nat) (pot : List Int) (hm : 0 < m) : sumR c m pot m = allC c m := by
  obtain ⟨k, rfl⟩ : ∃ k, m = k + 1 := ⟨m - 1, by omega⟩
  have e : (((k : Int) + 1) % ((k + 1 : Nat) : Int)).toNat = 0 := by
    rw [show ((k + 1 : Nat) : Int) = (k : Int) + 1 by omega, Int.emod_self]
    rfl
  rw [sumR, sumR_part c (k + 1) pot k (by omega), allC, e]
  simp only [tmV, Int.one_mul, Int.toNat_natCast]
  omega
theorem costC_bnd (c : List Nat) (hc : ∀ x ∈ c, x < 256) (k : Nat) (hk : k < 100) : -100 ≤ costC c k ∧ costC c k ≤ 200 := by
  unfold costC
  split
  · obtain ⟨b, hb⟩ := at_ (l := c) (k := k) (by omega)
    have := hc b (List.mem_of_getElem? hb)
    rw [getD_at hb]
    omega
  · omega
set_option maxHeartbeats 2000000 in
theorem priceRound_s (n : Nat) (pot : List Int) (c : List Nat) (hn : n < 256) (hp : ∀ n ∈ pot, -9223372036854775808 ≤ n ∧ n ≤ 9223372036854775807) (hc : ∀ x ∈ c, x < 256) (h1 : c.length ≤ 9223372036854775807) (h2 : pot.length ≤ 9223372036854775807) :
    Spec Try.prog 11 [.v (.int .u8 n), .a 1000 pot.length, .a 1001 c.length] [(1000, .ro eInt pot), (1001, .ro eByt c)] (bv true) [] := by
  have ttt : true = true := rfl
  obtain ⟨m, hm⟩ : ∃ m, 1 + n % 9 = m := ⟨_, rfl⟩
  have em : 1 + (n : Int) % 9 = (m : Int) := by omega
  have hm9 : 0 < m ∧ m ≤ 9 := by omega
  refine Spec.mk [] Try.call11 Try.func11 Try.ntmps11 Try.results11 rfl (by kernel_rfl) (by kernel_rfl) ?_
  (repeat (first | apply TL.seq | ((first | apply TL.pl | apply TL.dr _ (by kernel_rfl)); (repeat (first | (apply RX.kN; refine RX.x OpA rfl ?_) | (apply RX.kG; first | refine RX.y rfl rfl rfl GdA OpA ?_ | refine RX.n rfl rfl rfl GdA rfl rfl ?_ | refine RX.nU rfl rfl rfl rfl rfl ?_ | refine RX.nS rfl rfl rfl GdA rfl ?_))); (try apply RX.nil _ (by kernel_rfl))) | (apply TL.kC; first | refine TL.condT rfl DecT ?_ | refine TL.condF rfl DecF ?_ | refine TL.condT rfl BoT ?_ | refine TL.condF rfl BoF ?_) | apply TL.block | apply TL.endB | apply TL.exit rfl | apply TL.exitOut rfl | apply TL.ret | apply TL.skip | apply TL.nil | apply loopK.exit rfl | apply loopK.ret | apply loopK.exitOut rfl))
  rw [em]
  ((repeat (first | (apply RX.kN; refine RX.x OpA rfl ?_) | (apply RX.kG; first | refine RX.y rfl rfl rfl GdA OpA ?_ | refine RX.n rfl rfl rfl GdA rfl rfl ?_ | refine RX.nU rfl rfl rfl rfl rfl ?_ | refine RX.nS rfl rfl rfl GdA rfl ?_))); (try apply RX.nil _ (by kernel_rfl)); repeat (first | apply TL.seq | ((first | apply TL.pl | apply TL.dr _ (by kernel_rfl)); (repeat (first | (apply RX.kN; refine RX.x OpA rfl ?_) | (apply RX.kG; first | refine RX.y rfl rfl rfl GdA OpA ?_ | refine RX.n rfl rfl rfl GdA rfl rfl ?_ | refine RX.nU rfl rfl rfl rfl rfl ?_ | refine RX.nS rfl rfl rfl GdA rfl ?_))); (try apply RX.nil _ (by kernel_rfl))) | (apply TL.kC; first | refine TL.condT rfl DecT ?_ | refine TL.condF rfl DecF ?_ | refine TL.condT rfl BoT ?_ | refine TL.condF rfl BoF ?_) | apply TL.block | apply TL.endB | apply TL.exit rfl | apply TL.exitOut rfl | apply TL.ret | apply TL.skip | apply TL.nil | apply loopK.exit rfl | apply loopK.ret | apply loopK.exitOut rfl))
  by_cases h40 : 40 < pot.length
  · (repeat (first | apply TL.seq | ((first | apply TL.pl | apply TL.dr _ (by kernel_rfl)); (repeat (first | (apply RX.kN; refine RX.x OpA rfl ?_) | (apply RX.kG; first | refine RX.y rfl rfl rfl GdA OpA ?_ | refine RX.n rfl rfl rfl GdA rfl rfl ?_ | refine RX.nU rfl rfl rfl rfl rfl ?_ | refine RX.nS rfl rfl rfl GdA rfl ?_))); (try apply RX.nil _ (by kernel_rfl))) | (apply TL.kC; first | refine TL.condT rfl DecT ?_ | refine TL.condF rfl DecF ?_ | refine TL.condT rfl BoT ?_ | refine TL.condF rfl BoF ?_) | apply TL.block | apply TL.endB | apply TL.exit rfl | apply TL.exitOut rfl | apply TL.ret | apply TL.skip | apply TL.nil | apply loopK.exit rfl | apply loopK.ret | apply loopK.exitOut rfl))
    (first | refine RX.x (OpR.callA (known11_s) (sg []) LeA) rfl ?_ | refine RX.y rfl rfl rfl GdA (OpR.callA (known11_s) (sg []) LeA) ?_); ((repeat (first | (apply RX.kN; refine RX.x OpA rfl ?_) | (apply RX.kG; first | refine RX.y rfl rfl rfl GdA OpA ?_ | refine RX.n rfl rfl rfl GdA rfl rfl ?_ | refine RX.nU rfl rfl rfl rfl rfl ?_ | refine RX.nS rfl rfl rfl GdA rfl ?_))); (try apply RX.nil _ (by kernel_rfl)); repeat (first | apply TL.seq | ((first | apply TL.pl | apply TL.dr _ (by kernel_rfl)); (repeat (first | (apply RX.kN; refine RX.x OpA rfl ?_) | (apply RX.kG; first | refine RX.y rfl rfl rfl GdA OpA ?_ | refine RX.n rfl rfl rfl GdA rfl rfl ?_ | refine RX.nU rfl rfl rfl rfl rfl ?_ | refine RX.nS rfl rfl rfl GdA rfl ?_))); (try apply RX.nil _ (by kernel_rfl))) | (apply TL.kC; first | refine TL.condT rfl DecT ?_ | refine TL.condF rfl DecF ?_ | refine TL.condT rfl BoT ?_ | refine TL.condF rfl BoF ?_) | apply TL.block | apply TL.endB | apply TL.exit rfl | apply TL.exitOut rfl | apply TL.ret | apply TL.skip | apply TL.nil | apply loopK.exit rfl | apply loopK.ret | apply loopK.exitOut rfl))
    exact retK.v rfl
  (repeat (first | apply TL.seq | ((first | apply TL.pl | apply TL.dr _ (by kernel_rfl)); (repeat (first | (apply RX.kN; refine RX.x OpA rfl ?_) | (apply RX.kG; first | refine RX.y rfl rfl rfl GdA OpA ?_ | refine RX.n rfl rfl rfl GdA rfl rfl ?_ | refine RX.nU rfl rfl rfl rfl rfl ?_ | refine RX.nS rfl rfl rfl GdA rfl ?_))); (try apply RX.nil _ (by kernel_rfl))) | (apply TL.kC; first | refine TL.condT rfl DecT ?_ | refine TL.condF rfl DecF ?_ | refine TL.condT rfl BoT ?_ | refine TL.condF rfl BoF ?_) | apply TL.block | apply TL.endB | apply TL.exit rfl | apply TL.exitOut rfl | apply TL.ret | apply TL.skip | apply TL.nil | apply loopK.exit rfl | apply loopK.ret | apply loopK.exitOut rfl))
  refine TL.viewNilC 8 1 3000 44 eArc rfl rfl rfl ?_
  refine TL.loop (ρ := fun i => i) (X := Nat) (fun k => ⟨[(1, .a 1000 pot.length), (2, .a 1001 c.length), (7, iv m), (8, .p 8 0), (9, .p 9 0), (10, .p 10 0), (11, iv k)], [(1000, .ro eInt pot), (1001, .ro eByt c), (19, .own 2 eInt (List.replicate m 0)), (3000, .own 44 eArc (ringC c m k)), (8, .cells 25 [.a 19 m, .a 3000 (ringC c m k).length]), (9, cW 0), (10, cW (allC c k))]⟩) (fun k => k ≤ m) (fun k => m - k) 0 (by omega) LeI ?_
  intro k hk
  by_cases hlt : k < m
  · have hy := ringC_succ c m k
    have hz : allC c (k + 1) = allC c k + costC c k := rfl
    have hLl := ringC_len c m k
    generalize ringC c m k = Lj at *
    by_cases hkc : k < c.length
    · obtain ⟨b, hb⟩ := at_ hkc
      have hbb := hc b (List.mem_of_getElem? hb)
      have he : costC c k = (b : Int) - 100 := by unfold costC; rw [if_pos hkc, getD_at hb]
      rw [he] at hy hz
      (repeat (first | apply TL.seq | ((first | apply TL.pl | apply TL.dr _ (by kernel_rfl)); (repeat (first | (apply RX.kN; refine RX.x OpA rfl ?_) | (apply RX.kG; first | refine RX.y rfl rfl rfl GdA OpA ?_ | refine RX.n rfl rfl rfl GdA rfl rfl ?_ | refine RX.nU rfl rfl rfl rfl rfl ?_ | refine RX.nS rfl rfl rfl GdA rfl ?_))); (try apply RX.nil _ (by kernel_rfl))) | (apply TL.kC; first | refine TL.condT rfl DecT ?_ | refine TL.condF rfl DecF ?_ | refine TL.condT rfl BoT ?_ | refine TL.condF rfl BoF ?_) | apply TL.block | apply TL.endB | apply TL.exit rfl | apply TL.exitOut rfl | apply TL.ret | apply TL.skip | apply TL.nil | apply loopK.exit rfl | apply loopK.ret | apply loopK.exitOut rfl))
      (first | refine RX.x (OpR.callA (of_s ((b : Int) - 100) (by omega) (by omega)) (sg []) LeA) rfl ?_ | refine RX.y rfl rfl rfl GdA (OpR.callA (of_s ((b : Int) - 100) (by omega) (by omega)) (sg []) LeA) ?_); ((repeat (first | (apply RX.kN; refine RX.x OpA rfl ?_) | (apply RX.kG; first | refine RX.y rfl rfl rfl GdA OpA ?_ | refine RX.n rfl rfl rfl GdA rfl rfl ?_ | refine RX.nU rfl rfl rfl rfl rfl ?_ | refine RX.nS rfl rfl rfl GdA rfl ?_))); (try apply RX.nil _ (by kernel_rfl)); repeat (first | apply TL.seq | ((first | apply TL.pl | apply TL.dr _ (by kernel_rfl)); (repeat (first | (apply RX.kN; refine RX.x OpA rfl ?_) | (apply RX.kG; first | refine RX.y rfl rfl rfl GdA OpA ?_ | refine RX.n rfl rfl rfl GdA rfl rfl ?_ | refine RX.nU rfl rfl rfl rfl rfl ?_ | refine RX.nS rfl rfl rfl GdA rfl ?_))); (try apply RX.nil _ (by kernel_rfl))) | (apply TL.kC; first | refine TL.condT rfl DecT ?_ | refine TL.condF rfl DecF ?_ | refine TL.condT rfl BoT ?_ | refine TL.condF rfl BoF ?_) | apply TL.block | apply TL.endB | apply TL.exit rfl | apply TL.exitOut rfl | apply TL.ret | apply TL.skip | apply TL.nil | apply loopK.exit rfl | apply loopK.ret | apply loopK.exitOut rfl))
      (first | refine RX.x (OpR.callA (plus_s (allC c k) ((b : Int) - 100)) (sg []) LeA) rfl ?_ | refine RX.y rfl rfl rfl GdA (OpR.callA (plus_s (allC c k) ((b : Int) - 100)) (sg []) LeA) ?_); ((repeat (first | (apply RX.kN; refine RX.x OpA rfl ?_) | (apply RX.kG; first | refine RX.y rfl rfl rfl GdA OpA ?_ | refine RX.n rfl rfl rfl GdA rfl rfl ?_ | refine RX.nU rfl rfl rfl rfl rfl ?_ | refine RX.nS rfl rfl rfl GdA rfl ?_))); (try apply RX.nil _ (by kernel_rfl)); repeat (first | apply TL.seq | ((first | apply TL.pl | apply TL.dr _ (by kernel_rfl)); (repeat (first | (apply RX.kN; refine RX.x OpA rfl ?_) | (apply RX.kG; first | refine RX.y rfl rfl rfl GdA OpA ?_ | refine RX.n rfl rfl rfl GdA rfl rfl ?_ | refine RX.nU rfl rfl rfl rfl rfl ?_ | refine RX.nS rfl rfl rfl GdA rfl ?_))); (try apply RX.nil _ (by kernel_rfl))) | (apply TL.kC; first | refine TL.condT rfl DecT ?_ | refine TL.condF rfl DecF ?_ | refine TL.condT rfl BoT ?_ | refine TL.condF rfl BoF ?_) | apply TL.block | apply TL.endB | apply TL.exit rfl | apply TL.exitOut rfl | apply TL.ret | apply TL.skip | apply TL.nil | apply loopK.exit rfl | apply loopK.ret | apply loopK.exitOut rfl))
      exact loopK.normal ⟨k + 1, _, hlt, by omega, LeR (sg [(3000, 53)]) (by exact LeSA) (by rw [hy, hz, List.length_append]; exact LeA)⟩
    · have he : costC c k = k := by unfold costC; rw [if_neg hkc]
      rw [he] at hy hz
      (repeat (first | apply TL.seq | ((first | apply TL.pl | apply TL.dr _ (by kernel_rfl)); (repeat (first | (apply RX.kN; refine RX.x OpA rfl ?_) | (apply RX.kG; first | refine RX.y rfl rfl rfl GdA OpA ?_ | refine RX.n rfl rfl rfl GdA rfl rfl ?_ | refine RX.nU rfl rfl rfl rfl rfl ?_ | refine RX.nS rfl rfl rfl GdA rfl ?_))); (try apply RX.nil _ (by kernel_rfl))) | (apply TL.kC; first | refine TL.condT rfl DecT ?_ | refine TL.condF rfl DecF ?_ | refine TL.condT rfl BoT ?_ | refine TL.condF rfl BoF ?_) | apply TL.block | apply TL.endB | apply TL.exit rfl | apply TL.exitOut rfl | apply TL.ret | apply TL.skip | apply TL.nil | apply loopK.exit rfl | apply loopK.ret | apply loopK.exitOut rfl))
      (first | refine RX.x (OpR.callA (of_s k (by omega) (by omega)) (sg []) LeA) rfl ?_ | refine RX.y rfl rfl rfl GdA (OpR.callA (of_s k (by omega) (by omega)) (sg []) LeA) ?_); ((repeat (first | (apply RX.kN; refine RX.x OpA rfl ?_) | (apply RX.kG; first | refine RX.y rfl rfl rfl GdA OpA ?_ | refine RX.n rfl rfl rfl GdA rfl rfl ?_ | refine RX.nU rfl rfl rfl rfl rfl ?_ | refine RX.nS rfl rfl rfl GdA rfl ?_))); (try apply RX.nil _ (by kernel_rfl)); repeat (first | apply TL.seq | ((first | apply TL.pl | apply TL.dr _ (by kernel_rfl)); (repeat (first | (apply RX.kN; refine RX.x OpA rfl ?_) | (apply RX.kG; first | refine RX.y rfl rfl rfl GdA OpA ?_ | refine RX.n rfl rfl rfl GdA rfl rfl ?_ | refine RX.nU rfl rfl rfl rfl rfl ?_ | refine RX.nS rfl rfl rfl GdA rfl ?_))); (try apply RX.nil _ (by kernel_rfl))) | (apply TL.kC; first | refine TL.condT rfl DecT ?_ | refine TL.condF rfl DecF ?_ | refine TL.condT rfl BoT ?_ | refine TL.condF rfl BoF ?_) | apply TL.block | apply TL.endB | apply TL.exit rfl | apply TL.exitOut rfl | apply TL.ret | apply TL.skip | apply TL.nil | apply loopK.exit rfl | apply loopK.ret | apply loopK.exitOut rfl))
      (first | refine RX.x (OpR.callA (plus_s (allC c k) k) (sg []) LeA) rfl ?_ | refine RX.y rfl rfl rfl GdA (OpR.callA (plus_s (allC c k) k) (sg []) LeA) ?_); ((repeat (first | (apply RX.kN; refine RX.x OpA rfl ?_) | (apply RX.kG; first | refine RX.y rfl rfl rfl GdA OpA ?_ | refine RX.n rfl rfl rfl GdA rfl rfl ?_ | refine RX.nU rfl rfl rfl rfl rfl ?_ | refine RX.nS rfl rfl rfl GdA rfl ?_))); (try apply RX.nil _ (by kernel_rfl)); repeat (first | apply TL.seq | ((first | apply TL.pl | apply TL.dr _ (by kernel_rfl)); (repeat (first | (apply RX.kN; refine RX.x OpA rfl ?_) | (apply RX.kG; first | refine RX.y rfl rfl rfl GdA OpA ?_ | refine RX.n rfl rfl rfl GdA rfl rfl ?_ | refine RX.nU rfl rfl rfl rfl rfl ?_ | refine RX.nS rfl rfl rfl GdA rfl ?_))); (try apply RX.nil _ (by kernel_rfl))) | (apply TL.kC; first | refine TL.condT rfl DecT ?_ | refine TL.condF rfl DecF ?_ | refine TL.condT rfl BoT ?_ | refine TL.condF rfl BoF ?_) | apply TL.block | apply TL.endB | apply TL.exit rfl | apply TL.exitOut rfl | apply TL.ret | apply TL.skip | apply TL.nil | apply loopK.exit rfl | apply loopK.ret | apply loopK.exitOut rfl))
      exact loopK.normal ⟨k + 1, _, hlt, by omega, LeR (sg [(3000, 53)]) (by exact LeSA) (by rw [hy, hz, List.length_append]; exact LeA)⟩
  obtain rfl : k = m := by omega
  rw [ringC_len]
  have hll := ringC_len c k k
  have hat := fun j (h : j < k) => ringC_at (c := c) (m := k) (k := k) h
  generalize hl : ringC c k k = l at *
  (repeat (first | apply TL.seq | ((first | apply TL.pl | apply TL.dr _ (by kernel_rfl)); (repeat (first | (apply RX.kN; refine RX.x OpA rfl ?_) | (apply RX.kG; first | refine RX.y rfl rfl rfl GdA OpA ?_ | refine RX.n rfl rfl rfl GdA rfl rfl ?_ | refine RX.nU rfl rfl rfl rfl rfl ?_ | refine RX.nS rfl rfl rfl GdA rfl ?_))); (try apply RX.nil _ (by kernel_rfl))) | (apply TL.kC; first | refine TL.condT rfl DecT ?_ | refine TL.condF rfl DecF ?_ | refine TL.condT rfl BoT ?_ | refine TL.condF rfl BoF ?_) | apply TL.block | apply TL.endB | apply TL.exit rfl | apply TL.exitOut rfl | apply TL.ret | apply TL.skip | apply TL.nil | apply loopK.exit rfl | apply loopK.ret | apply loopK.exitOut rfl))
  refine TL.loop (ρ := fun i => i) (X := Nat) (fun j => ⟨[(1, .a 1000 pot.length), (7, iv k), (8, .p 8 0), (9, .p 9 0), (10, .p 10 0), (13, iv j)], [(1000, .ro eInt pot), (19, .own 2 eInt (List.replicate k 0)), (3000, .own 44 eArc l), (8, .cells 25 [.a 19 k, .a 3000 k]), (9, cW (sumR c k pot j)), (10, cW (allC c k))]⟩) (fun j => j ≤ k) (fun j => k - j) 0 (by omega) LeI ?_
  intro j hj
  by_cases hjk : j < k
  · have ha := hat j hjk
    have hz : sumR c k pot (j + 1) = sumR c k pot j + tmV ⟨j, ((j : Int) + 1) % (k : Int), 0, 1, costC c j⟩ (po pot ((j : Int).toNat)) (po pot ((((j : Int) + 1) % (k : Int)).toNat)) 1 := rfl
    have hcb := costC_bnd c hc j (by omega)
    have hmod1 := Int.emod_nonneg ((j : Int) + 1) (show (k : Int) ≠ 0 by omega)
    have hmod2 := Int.emod_lt_of_pos ((j : Int) + 1) (show 0 < (k : Int) by omega)
    have pr := reduced_yes (List.replicate k 0) l pot j _ (by omega) ha (by simp only [wholeB, decide_eq_true_eq, List.length_replicate]; omega) (by unfold i64; dsimp only; omega) (po_i64 hp)
    unfold vI at pr
    rw [List.length_replicate, hll] at pr
    dsimp only at pr
    (repeat (first | apply TL.seq | ((first | apply TL.pl | apply TL.dr _ (by kernel_rfl)); (repeat (first | (apply RX.kN; refine RX.x OpA rfl ?_) | (apply RX.kG; first | refine RX.y rfl rfl rfl GdA OpA ?_ | refine RX.n rfl rfl rfl GdA rfl rfl ?_ | refine RX.nU rfl rfl rfl rfl rfl ?_ | refine RX.nS rfl rfl rfl GdA rfl ?_))); (try apply RX.nil _ (by kernel_rfl))) | (apply TL.kC; first | refine TL.condT rfl DecT ?_ | refine TL.condF rfl DecF ?_ | refine TL.condT rfl BoT ?_ | refine TL.condF rfl BoF ?_) | apply TL.block | apply TL.endB | apply TL.exit rfl | apply TL.exitOut rfl | apply TL.ret | apply TL.skip | apply TL.nil | apply loopK.exit rfl | apply loopK.ret | apply loopK.exitOut rfl))
    (first | refine RX.x (OpR.callA (pr) (sg [(1000, 19), (1001, 3000), (1002, 1000)]) LeA) rfl ?_ | refine RX.y rfl rfl rfl GdA (OpR.callA (pr) (sg [(1000, 19), (1001, 3000), (1002, 1000)]) LeA) ?_); ((repeat (first | (apply RX.kN; refine RX.x OpA rfl ?_) | (apply RX.kG; first | refine RX.y rfl rfl rfl GdA OpA ?_ | refine RX.n rfl rfl rfl GdA rfl rfl ?_ | refine RX.nU rfl rfl rfl rfl rfl ?_ | refine RX.nS rfl rfl rfl GdA rfl ?_))); (try apply RX.nil _ (by kernel_rfl)); repeat (first | apply TL.seq | ((first | apply TL.pl | apply TL.dr _ (by kernel_rfl)); (repeat (first | (apply RX.kN; refine RX.x OpA rfl ?_) | (apply RX.kG; first | refine RX.y rfl rfl rfl GdA OpA ?_ | refine RX.n rfl rfl rfl GdA rfl rfl ?_ | refine RX.nU rfl rfl rfl rfl rfl ?_ | refine RX.nS rfl rfl rfl GdA rfl ?_))); (try apply RX.nil _ (by kernel_rfl))) | (apply TL.kC; first | refine TL.condT rfl DecT ?_ | refine TL.condF rfl DecF ?_ | refine TL.condT rfl BoT ?_ | refine TL.condF rfl BoF ?_) | apply TL.block | apply TL.endB | apply TL.exit rfl | apply TL.exitOut rfl | apply TL.ret | apply TL.skip | apply TL.nil | apply loopK.exit rfl | apply loopK.ret | apply loopK.exitOut rfl))
    refine RX.x (OpR.callA (plus_s (sumR c k pot j) _) (sg []) LeA) rfl ?_
    ((repeat (first | (apply RX.kN; refine RX.x OpA rfl ?_) | (apply RX.kG; first | refine RX.y rfl rfl rfl GdA OpA ?_ | refine RX.n rfl rfl rfl GdA rfl rfl ?_ | refine RX.nU rfl rfl rfl rfl rfl ?_ | refine RX.nS rfl rfl rfl GdA rfl ?_))); (try apply RX.nil _ (by kernel_rfl)); repeat (first | apply TL.seq | ((first | apply TL.pl | apply TL.dr _ (by kernel_rfl)); (repeat (first | (apply RX.kN; refine RX.x OpA rfl ?_) | (apply RX.kG; first | refine RX.y rfl rfl rfl GdA OpA ?_ | refine RX.n rfl rfl rfl GdA rfl rfl ?_ | refine RX.nU rfl rfl rfl rfl rfl ?_ | refine RX.nS rfl rfl rfl GdA rfl ?_))); (try apply RX.nil _ (by kernel_rfl))) | (apply TL.kC; first | refine TL.condT rfl DecT ?_ | refine TL.condF rfl DecF ?_ | refine TL.condT rfl BoT ?_ | refine TL.condF rfl BoF ?_) | apply TL.block | apply TL.endB | apply TL.exit rfl | apply TL.exitOut rfl | apply TL.ret | apply TL.skip | apply TL.nil | apply loopK.exit rfl | apply loopK.ret | apply loopK.exitOut rfl))
    exact loopK.normal ⟨j + 1, fun i => i, hjk, by omega, by rw [hz]; exact LeI⟩
  obtain rfl : j = k := by omega
  have e0 : (toW (allC c j)).hi = (toW (allC c j)).hi ∧ (toW (allC c j)).lo = (toW (allC c j)).lo := ⟨rfl, rfl⟩
  rw [sumR_all c j pot hm9.1]
  (repeat (first | apply TL.seq | ((first | apply TL.pl | apply TL.dr _ (by kernel_rfl)); (repeat (first | (apply RX.kN; refine RX.x OpA rfl ?_) | (apply RX.kG; first | refine RX.y rfl rfl rfl GdA OpA ?_ | refine RX.n rfl rfl rfl GdA rfl rfl ?_ | refine RX.nU rfl rfl rfl rfl rfl ?_ | refine RX.nS rfl rfl rfl GdA rfl ?_))); (try apply RX.nil _ (by kernel_rfl))) | (apply TL.kC; first | refine TL.condT rfl DecT ?_ | refine TL.condF rfl DecF ?_ | refine TL.condT rfl BoT ?_ | refine TL.condF rfl BoF ?_) | apply TL.block | apply TL.endB | apply TL.exit rfl | apply TL.exitOut rfl | apply TL.ret | apply TL.skip | apply TL.nil | apply loopK.exit rfl | apply loopK.ret | apply loopK.exitOut rfl))
  (first | refine RX.x (OpR.callA (known11_s) (sg []) LeA) rfl ?_ | refine RX.y rfl rfl rfl GdA (OpR.callA (known11_s) (sg []) LeA) ?_); ((repeat (first | (apply RX.kN; refine RX.x OpA rfl ?_) | (apply RX.kG; first | refine RX.y rfl rfl rfl GdA OpA ?_ | refine RX.n rfl rfl rfl GdA rfl rfl ?_ | refine RX.nU rfl rfl rfl rfl rfl ?_ | refine RX.nS rfl rfl rfl GdA rfl ?_))); (try apply RX.nil _ (by kernel_rfl)); repeat (first | apply TL.seq | ((first | apply TL.pl | apply TL.dr _ (by kernel_rfl)); (repeat (first | (apply RX.kN; refine RX.x OpA rfl ?_) | (apply RX.kG; first | refine RX.y rfl rfl rfl GdA OpA ?_ | refine RX.n rfl rfl rfl GdA rfl rfl ?_ | refine RX.nU rfl rfl rfl rfl rfl ?_ | refine RX.nS rfl rfl rfl GdA rfl ?_))); (try apply RX.nil _ (by kernel_rfl))) | (apply TL.kC; first | refine TL.condT rfl DecT ?_ | refine TL.condF rfl DecF ?_ | refine TL.condT rfl BoT ?_ | refine TL.condF rfl BoF ?_) | apply TL.block | apply TL.endB | apply TL.exit rfl | apply TL.exitOut rfl | apply TL.ret | apply TL.skip | apply TL.nil | apply loopK.exit rfl | apply loopK.ret | apply loopK.exitOut rfl))
  exact retK.v (vBool (dT e0))
end Go.Proofs.Ytiboffhdabeiiaa
