/-
  Chapter 12: its example; RayNothing; by symbolic steps.
-/
import Derived.Test.YtiboffhdabeiiaaRyC
import Derived.Test.YtiboffhdabeiiaaSxR
namespace Go.Proofs.Ytiboffhdabeiiaa
open Go Go.RowKit
theorem known12_s : Spec Try.prog 32 [] [] (bv true) [] := by
  have ttt : true = true := rfl
  have hc : ∀ a ∈ ([⟨0, 1, 0, 4611686018427387904, -3⟩, ⟨1, 0, 0, 4611686018427387904, 2⟩] : List PArc), -9223372036854775808 ≤ a.co ∧ a.co ≤ 9223372036854775807 := by decide
  have p1 := turns_s [0, 0] [⟨0, 1, 0, 4611686018427387904, -3⟩, ⟨1, 0, 0, 4611686018427387904, 2⟩] [0, 1] (by decide) (by decide) (by decide) hc
  rw [show turnsN [0, 0] [⟨0, 1, 0, 4611686018427387904, -3⟩, ⟨1, 0, 0, 4611686018427387904, 2⟩] [0, 1] = 0 by decide] at p1
  have p2 := turns_s [0, 0] [⟨0, 1, 0, 4611686018427387904, -3⟩, ⟨1, 0, 0, 4611686018427387904, 2⟩] [1, 0] (by decide) (by decide) (by decide) hc
  rw [show turnsN [0, 0] [⟨0, 1, 0, 4611686018427387904, -3⟩, ⟨1, 0, 0, 4611686018427387904, 2⟩] [1, 0] = 0 by decide] at p2
  have p3 := turns_s [0, 0] [⟨0, 1, 0, 4611686018427387904, -3⟩, ⟨1, 0, 0, 4611686018427387904, 2⟩] [0] (by decide) (by decide) (by decide) hc
  rw [show turnsN [0, 0] [⟨0, 1, 0, 4611686018427387904, -3⟩, ⟨1, 0, 0, 4611686018427387904, 2⟩] [0] = 35 by decide] at p3
  have p4 := turns_s [0, 0] [⟨0, 1, 0, 4611686018427387904, -3⟩, ⟨1, 0, 0, 4611686018427387904, 2⟩] [] (by decide) (by decide) (by decide) hc
  rw [show turnsN [0, 0] [⟨0, 1, 0, 4611686018427387904, -3⟩, ⟨1, 0, 0, 4611686018427387904, 2⟩] [] = 30 by decide] at p4
  have p4 := Spec.nil (args' := [vI [0, 0] [⟨0, 1, 0, 4611686018427387904, -3⟩, ⟨1, 0, 0, 4611686018427387904, 2⟩], .v (.slice none 0 0)]) (pre' := hI [0, 0] [⟨0, 1, 0, 4611686018427387904, -3⟩, ⟨1, 0, 0, 4611686018427387904, 2⟩]) 1002 p4
  have p5 := rsum_s [0, 0] [⟨0, 1, 0, 4611686018427387904, -3⟩, ⟨1, 0, 0, 4611686018427387904, 2⟩] [0, 1] (by decide) (by decide) hc
  rw [show sumA [⟨0, 1, 0, 4611686018427387904, -3⟩, ⟨1, 0, 0, 4611686018427387904, 2⟩] [0, 1] = -1 by decide] at p5
  have e1 : (toW (-1)).hi = (toW (-1)).hi ∧ (toW (-1)).lo = (toW (-1)).lo := ⟨rfl, rfl⟩
  refine Spec.mk [] Try.call32 Try.func32 Try.ntmps32 Try.results32 rfl (by kernel_rfl) (by kernel_rfl) ?_
  (repeat (first | apply TL.seq | ((first | apply TL.pl | apply TL.dr _ (by kernel_rfl)); (repeat (first | (apply RX.kN; refine RX.x OpA rfl ?_) | (apply RX.kG; first | refine RX.y rfl rfl rfl GdA OpA ?_ | refine RX.n rfl rfl rfl GdA rfl rfl ?_ | refine RX.nU rfl rfl rfl rfl rfl ?_ | refine RX.nS rfl rfl rfl GdA rfl ?_))); (try apply RX.nil _ (by kernel_rfl))) | (apply TL.kC; first | refine TL.condT rfl DecT ?_ | refine TL.condF rfl DecF ?_ | refine TL.condT rfl BoT ?_ | refine TL.condF rfl BoF ?_) | apply TL.block | apply TL.endB | apply TL.exit rfl | apply TL.exitOut rfl | apply TL.ret | apply TL.skip | apply TL.nil | apply loopK.exit rfl | apply loopK.ret | apply loopK.exitOut rfl))
  refine RX.x (OpR.make' (n := 2) rfl rfl (by omega) (by kernel_rfl) (by kernel_rfl) rfl) rfl ?_
  rw [show List.replicate 2 eInt.zero = [0, 0] from rfl]
  ((repeat (first | (apply RX.kN; refine RX.x OpA rfl ?_) | (apply RX.kG; first | refine RX.y rfl rfl rfl GdA OpA ?_ | refine RX.n rfl rfl rfl GdA rfl rfl ?_ | refine RX.nU rfl rfl rfl rfl rfl ?_ | refine RX.nS rfl rfl rfl GdA rfl ?_))); (try apply RX.nil _ (by kernel_rfl)); repeat (first | apply TL.seq | ((first | apply TL.pl | apply TL.dr _ (by kernel_rfl)); (repeat (first | (apply RX.kN; refine RX.x OpA rfl ?_) | (apply RX.kG; first | refine RX.y rfl rfl rfl GdA OpA ?_ | refine RX.n rfl rfl rfl GdA rfl rfl ?_ | refine RX.nU rfl rfl rfl rfl rfl ?_ | refine RX.nS rfl rfl rfl GdA rfl ?_))); (try apply RX.nil _ (by kernel_rfl))) | (apply TL.kC; first | refine TL.condT rfl DecT ?_ | refine TL.condF rfl DecF ?_ | refine TL.condT rfl BoT ?_ | refine TL.condF rfl BoF ?_) | apply TL.block | apply TL.endB | apply TL.exit rfl | apply TL.exitOut rfl | apply TL.ret | apply TL.skip | apply TL.nil | apply loopK.exit rfl | apply loopK.ret | apply loopK.exitOut rfl))
  (first | refine RX.x (OpR.callA (p1) (sg [(1000, 2), (1001, 5), (1002, 8)]) LeA) rfl ?_ | refine RX.y rfl rfl rfl GdA (OpR.callA (p1) (sg [(1000, 2), (1001, 5), (1002, 8)]) LeA) ?_); ((repeat (first | (apply RX.kN; refine RX.x OpA rfl ?_) | (apply RX.kG; first | refine RX.y rfl rfl rfl GdA OpA ?_ | refine RX.n rfl rfl rfl GdA rfl rfl ?_ | refine RX.nU rfl rfl rfl rfl rfl ?_ | refine RX.nS rfl rfl rfl GdA rfl ?_))); (try apply RX.nil _ (by kernel_rfl)); repeat (first | apply TL.seq | ((first | apply TL.pl | apply TL.dr _ (by kernel_rfl)); (repeat (first | (apply RX.kN; refine RX.x OpA rfl ?_) | (apply RX.kG; first | refine RX.y rfl rfl rfl GdA OpA ?_ | refine RX.n rfl rfl rfl GdA rfl rfl ?_ | refine RX.nU rfl rfl rfl rfl rfl ?_ | refine RX.nS rfl rfl rfl GdA rfl ?_))); (try apply RX.nil _ (by kernel_rfl))) | (apply TL.kC; first | refine TL.condT rfl DecT ?_ | refine TL.condF rfl DecF ?_ | refine TL.condT rfl BoT ?_ | refine TL.condF rfl BoF ?_) | apply TL.block | apply TL.endB | apply TL.exit rfl | apply TL.exitOut rfl | apply TL.ret | apply TL.skip | apply TL.nil | apply loopK.exit rfl | apply loopK.ret | apply loopK.exitOut rfl))
  (first | refine RX.x (OpR.callA (p2) (sg [(1000, 2), (1001, 5), (1002, 13)]) LeA) rfl ?_ | refine RX.y rfl rfl rfl GdA (OpR.callA (p2) (sg [(1000, 2), (1001, 5), (1002, 13)]) LeA) ?_); ((repeat (first | (apply RX.kN; refine RX.x OpA rfl ?_) | (apply RX.kG; first | refine RX.y rfl rfl rfl GdA OpA ?_ | refine RX.n rfl rfl rfl GdA rfl rfl ?_ | refine RX.nU rfl rfl rfl rfl rfl ?_ | refine RX.nS rfl rfl rfl GdA rfl ?_))); (try apply RX.nil _ (by kernel_rfl)); repeat (first | apply TL.seq | ((first | apply TL.pl | apply TL.dr _ (by kernel_rfl)); (repeat (first | (apply RX.kN; refine RX.x OpA rfl ?_) | (apply RX.kG; first | refine RX.y rfl rfl rfl GdA OpA ?_ | refine RX.n rfl rfl rfl GdA rfl rfl ?_ | refine RX.nU rfl rfl rfl rfl rfl ?_ | refine RX.nS rfl rfl rfl GdA rfl ?_))); (try apply RX.nil _ (by kernel_rfl))) | (apply TL.kC; first | refine TL.condT rfl DecT ?_ | refine TL.condF rfl DecF ?_ | refine TL.condT rfl BoT ?_ | refine TL.condF rfl BoF ?_) | apply TL.block | apply TL.endB | apply TL.exit rfl | apply TL.exitOut rfl | apply TL.ret | apply TL.skip | apply TL.nil | apply loopK.exit rfl | apply loopK.ret | apply loopK.exitOut rfl))
  (first | refine RX.x (OpR.callA (p3) (sg [(1000, 2), (1001, 5), (1002, 19)]) LeA) rfl ?_ | refine RX.y rfl rfl rfl GdA (OpR.callA (p3) (sg [(1000, 2), (1001, 5), (1002, 19)]) LeA) ?_); ((repeat (first | (apply RX.kN; refine RX.x OpA rfl ?_) | (apply RX.kG; first | refine RX.y rfl rfl rfl GdA OpA ?_ | refine RX.n rfl rfl rfl GdA rfl rfl ?_ | refine RX.nU rfl rfl rfl rfl rfl ?_ | refine RX.nS rfl rfl rfl GdA rfl ?_))); (try apply RX.nil _ (by kernel_rfl)); repeat (first | apply TL.seq | ((first | apply TL.pl | apply TL.dr _ (by kernel_rfl)); (repeat (first | (apply RX.kN; refine RX.x OpA rfl ?_) | (apply RX.kG; first | refine RX.y rfl rfl rfl GdA OpA ?_ | refine RX.n rfl rfl rfl GdA rfl rfl ?_ | refine RX.nU rfl rfl rfl rfl rfl ?_ | refine RX.nS rfl rfl rfl GdA rfl ?_))); (try apply RX.nil _ (by kernel_rfl))) | (apply TL.kC; first | refine TL.condT rfl DecT ?_ | refine TL.condF rfl DecF ?_ | refine TL.condT rfl BoT ?_ | refine TL.condF rfl BoF ?_) | apply TL.block | apply TL.endB | apply TL.exit rfl | apply TL.exitOut rfl | apply TL.ret | apply TL.skip | apply TL.nil | apply loopK.exit rfl | apply loopK.ret | apply loopK.exitOut rfl))
  (first | refine RX.x (OpR.callA (p4) (sg [(1000, 2), (1001, 5)]) LeA) rfl ?_ | refine RX.y rfl rfl rfl GdA (OpR.callA (p4) (sg [(1000, 2), (1001, 5)]) LeA) ?_); ((repeat (first | (apply RX.kN; refine RX.x OpA rfl ?_) | (apply RX.kG; first | refine RX.y rfl rfl rfl GdA OpA ?_ | refine RX.n rfl rfl rfl GdA rfl rfl ?_ | refine RX.nU rfl rfl rfl rfl rfl ?_ | refine RX.nS rfl rfl rfl GdA rfl ?_))); (try apply RX.nil _ (by kernel_rfl)); repeat (first | apply TL.seq | ((first | apply TL.pl | apply TL.dr _ (by kernel_rfl)); (repeat (first | (apply RX.kN; refine RX.x OpA rfl ?_) | (apply RX.kG; first | refine RX.y rfl rfl rfl GdA OpA ?_ | refine RX.n rfl rfl rfl GdA rfl rfl ?_ | refine RX.nU rfl rfl rfl rfl rfl ?_ | refine RX.nS rfl rfl rfl GdA rfl ?_))); (try apply RX.nil _ (by kernel_rfl))) | (apply TL.kC; first | refine TL.condT rfl DecT ?_ | refine TL.condF rfl DecF ?_ | refine TL.condT rfl BoT ?_ | refine TL.condF rfl BoF ?_) | apply TL.block | apply TL.endB | apply TL.exit rfl | apply TL.exitOut rfl | apply TL.ret | apply TL.skip | apply TL.nil | apply loopK.exit rfl | apply loopK.ret | apply loopK.exitOut rfl))
  (first | refine RX.x (OpR.callA (p5) (sg [(1000, 2), (1001, 5), (1002, 30)]) LeA) rfl ?_ | refine RX.y rfl rfl rfl GdA (OpR.callA (p5) (sg [(1000, 2), (1001, 5), (1002, 30)]) LeA) ?_); ((repeat (first | (apply RX.kN; refine RX.x OpA rfl ?_) | (apply RX.kG; first | refine RX.y rfl rfl rfl GdA OpA ?_ | refine RX.n rfl rfl rfl GdA rfl rfl ?_ | refine RX.nU rfl rfl rfl rfl rfl ?_ | refine RX.nS rfl rfl rfl GdA rfl ?_))); (try apply RX.nil _ (by kernel_rfl)); repeat (first | apply TL.seq | ((first | apply TL.pl | apply TL.dr _ (by kernel_rfl)); (repeat (first | (apply RX.kN; refine RX.x OpA rfl ?_) | (apply RX.kG; first | refine RX.y rfl rfl rfl GdA OpA ?_ | refine RX.n rfl rfl rfl GdA rfl rfl ?_ | refine RX.nU rfl rfl rfl rfl rfl ?_ | refine RX.nS rfl rfl rfl GdA rfl ?_))); (try apply RX.nil _ (by kernel_rfl))) | (apply TL.kC; first | refine TL.condT rfl DecT ?_ | refine TL.condF rfl DecF ?_ | refine TL.condT rfl BoT ?_ | refine TL.condF rfl BoF ?_) | apply TL.block | apply TL.endB | apply TL.exit rfl | apply TL.exitOut rfl | apply TL.ret | apply TL.skip | apply TL.nil | apply loopK.exit rfl | apply loopK.ret | apply loopK.exitOut rfl))
  (first | refine RX.x (OpR.callA (of_s (-1) (by omega) (by omega)) (sg []) LeA) rfl ?_ | refine RX.y rfl rfl rfl GdA (OpR.callA (of_s (-1) (by omega) (by omega)) (sg []) LeA) ?_); ((repeat (first | (apply RX.kN; refine RX.x OpA rfl ?_) | (apply RX.kG; first | refine RX.y rfl rfl rfl GdA OpA ?_ | refine RX.n rfl rfl rfl GdA rfl rfl ?_ | refine RX.nU rfl rfl rfl rfl rfl ?_ | refine RX.nS rfl rfl rfl GdA rfl ?_))); (try apply RX.nil _ (by kernel_rfl)); repeat (first | apply TL.seq | ((first | apply TL.pl | apply TL.dr _ (by kernel_rfl)); (repeat (first | (apply RX.kN; refine RX.x OpA rfl ?_) | (apply RX.kG; first | refine RX.y rfl rfl rfl GdA OpA ?_ | refine RX.n rfl rfl rfl GdA rfl rfl ?_ | refine RX.nU rfl rfl rfl rfl rfl ?_ | refine RX.nS rfl rfl rfl GdA rfl ?_))); (try apply RX.nil _ (by kernel_rfl))) | (apply TL.kC; first | refine TL.condT rfl DecT ?_ | refine TL.condF rfl DecF ?_ | refine TL.condT rfl BoT ?_ | refine TL.condF rfl BoF ?_) | apply TL.block | apply TL.endB | apply TL.exit rfl | apply TL.exitOut rfl | apply TL.ret | apply TL.skip | apply TL.nil | apply loopK.exit rfl | apply loopK.ret | apply loopK.exitOut rfl))
  exact retK.v (vBool (dT e1))
/-- How often a number is in a list. -/
def cntJ (r : List Int) (j : Nat) : Nat := r.countP fun a => decide (a.toNat = j)
theorem alongL_at (x r : List Int) (n : Int) (j : Nat) (hj : j < x.length) : (alongL x r n)[j]? = some (x.getD j 0 + n * (cntJ r j : Int)) := by
  induction r generalizing x with
  | nil =>
    obtain ⟨v, hv⟩ := at_ hj
    rw [show alongL x [] n = x from rfl, getD_at hv, hv]
    simp [cntJ]
  | cons a r ih =>
    rw [show alongL x (a :: r) n = alongL (x.set a.toNat (x.getD a.toNat 0 + n)) r n from rfl, ih _ (by simpa using hj)]
    congr 1
    obtain ⟨v, hv⟩ := at_ hj
    by_cases h : a.toNat = j
    · subst h
      rw [getD_at (List.getElem?_set_self hj), show cntJ (a :: r) a.toNat = cntJ r a.toNat + 1 by simp [cntJ], getD_at hv]
      rw [show ((cntJ r a.toNat + 1 : Nat) : Int) = (cntJ r a.toNat : Int) + 1 by omega, Int.mul_add]
      omega
    · rw [show cntJ (a :: r) j = cntJ r j by simp [cntJ, h], List.getD_eq_getElem?_getD, List.getElem?_set_ne h, List.getD_eq_getElem?_getD]
theorem cntJ_le (r : List Int) (j : Nat) : cntJ r j ≤ r.length := List.countP_le_length
theorem along_bnd {x r : List Int} {n B : Int} (hx : ∀ v ∈ x, -B ≤ v ∧ v ≤ B) (hn : -2147483648 ≤ n ∧ n ≤ 2147483648) : ∀ v ∈ alongL x r n, -(B + 2147483648 * (r.length : Int)) ≤ v ∧ v ≤ B + 2147483648 * r.length := by
  intro v hv
  obtain ⟨j, hj⟩ := List.mem_iff_getElem?.1 hv
  have hjl := (List.getElem?_eq_some_iff.1 hj).1
  rw [alongL_len] at hjl
  rw [alongL_at x r n j hjl] at hj
  injection hj with hj
  obtain ⟨u, hu⟩ := at_ hjl
  have h1 := hx u (List.mem_of_getElem? hu)
  rw [getD_at hu] at hj
  have h2 := cntJ_le r j
  have h3 := mulB (a := n) (b := (cntJ r j : Int)) (A := 2147483648) (B := (r.length : Int)) hn (by omega)
  omega
theorem along_back (x r : List Int) (n : Int) : alongL (alongL x r n) r (-n) = x := by
  apply List.ext_getElem?
  intro j
  by_cases hj : j < x.length
  · obtain ⟨v, hv⟩ := at_ hj
    rw [alongL_at _ _ _ _ (by rw [alongL_len]; exact hj), getD_at (alongL_at x r n j hj), getD_at hv, hv]
    congr 1
    rw [Int.neg_mul]
    omega
  · rw [List.getElem?_eq_none (by rw [alongL_len, alongL_len]; omega), List.getElem?_eq_none (by omega)]
end Go.Proofs.Ytiboffhdabeiiaa
