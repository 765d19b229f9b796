/-
  cut: Need, Other, Proves; rows of bool; by symbolic steps.
-/
import Derived.Test.YtiboffhdabeiiaaCtC
import Derived.Test.YtiboffhdabeiiaaSxY
import Derived.Test.YtiboffhdabeiiaaSqG
import Derived.Test.YtiboffhdabeiiaaFlC
namespace Go.Proofs.Ytiboffhdabeiiaa
open Go Go.RowKit
def needL (side : List Bool) (s : List Int) : Nat → List Int
  | 0 => []
  | k + 1 => match s[k]? with
    | some u => if sd side k = true then needL side s k ++ [u] else needL side s k
    | none => needL side s k
theorem needL_succ {side : List Bool} {s : List Int} {k : Nat} {u : Int} (h : s[k]? = some u) : needL side s (k + 1) = if sd side k = true then needL side s k ++ [u] else needL side s k := by rw [needL, h]
theorem needL_len (side : List Bool) (s : List Int) (k : Nat) : (needL side s k).length ≤ k := by
  induction k with
  | zero => simp [needL]
  | succ k ih =>
    unfold needL
    split
    · split
      · simp
        omega
      · omega
    · omega
theorem needL_mem {side : List Bool} {s : List Int} {k : Nat} {u : Int} (h : u ∈ needL side s k) : u ∈ s := by
  induction k with
  | zero => simp [needL] at h
  | succ k ih =>
    unfold needL at h
    split at h
    · rename_i v hv
      split at h
      · rcases List.mem_append.1 h with h | h
        · exact ih h
        · simp at h
          subst h
          exact List.mem_of_getElem? hv
      · exact ih h
    · exact ih h
theorem need_s (s : List Int) (l : List PArc) (side : List Bool) (hs : s.length ≤ 1000000000) (hr : ∀ u ∈ s, -9223372036854775808 ≤ u ∧ u ≤ 9223372036854775807) : Spec Try.prog 37 [vI s l, .a 1002 side.length] (hI s l ++ hB side) (wd (sumL (needL side s s.length))) [] := by
  refine Spec.mk [] Try.call37 Try.func37 Try.ntmps37 Try.results37 rfl (by kernel_rfl) (by kernel_rfl) ?_
  (repeat (first | apply TL.seq | ((first | apply TL.pl | apply TL.dr _ (by kernel_rfl)); (repeat (first | (apply RX.kN; refine RX.x OpA rfl ?_) | (apply RX.kG; first | refine RX.y rfl rfl rfl GdA OpA ?_ | refine RX.n rfl rfl rfl GdA rfl rfl ?_ | refine RX.nU rfl rfl rfl rfl rfl ?_ | refine RX.nS rfl rfl rfl GdA rfl ?_))); (try apply RX.nil _ (by kernel_rfl))) | (apply TL.kC; first | refine TL.condT rfl DecT ?_ | refine TL.condF rfl DecF ?_ | refine TL.condT rfl BoT ?_ | refine TL.condF rfl BoF ?_) | apply TL.block | apply TL.endB | apply TL.exit rfl | apply TL.exitOut rfl | apply TL.ret | apply TL.skip | apply TL.nil | apply loopK.exit rfl | apply loopK.ret | apply loopK.exitOut rfl))
  refine TL.viewNil 5 3000 2 eInt rfl rfl rfl ?_
  refine TL.loop (ρ := fun i => i) (X := Nat) (fun k => ⟨[(1, .a 1002 side.length), (4, .p 4 0), (5, .a 3000 (needL side s k).length), (9, .a 1000 s.length), (10, iv s.length), (11, iv k)], [(1000, .ro eInt s), (1002, .ro eBool side), (4, cW 0), (3000, .own 2 eInt (needL side s k))]⟩) (fun k => k ≤ s.length) (fun k => s.length - k) 0 (by omega) LeI ?_
  intro k hk
  by_cases hlt : k < s.length
  · obtain ⟨u, hu⟩ := at_ hlt
    have hst := needL_succ (side := side) hu
    have hle := needL_len side s k
    generalize needL side s k = L at *
    have po := on_s side k (by omega)
    cases hx : sd side k with
    | true =>
      rw [hx] at hst po
      rw [if_pos rfl] at hst
      (repeat (first | apply TL.seq | ((first | apply TL.pl | apply TL.dr _ (by kernel_rfl)); (repeat (first | (apply RX.kN; refine RX.x OpA rfl ?_) | (apply RX.kG; first | refine RX.y rfl rfl rfl GdA OpA ?_ | refine RX.n rfl rfl rfl GdA rfl rfl ?_ | refine RX.nU rfl rfl rfl rfl rfl ?_ | refine RX.nS rfl rfl rfl GdA rfl ?_))); (try apply RX.nil _ (by kernel_rfl))) | (apply TL.kC; first | refine TL.condT rfl DecT ?_ | refine TL.condF rfl DecF ?_ | refine TL.condT rfl BoT ?_ | refine TL.condF rfl BoF ?_) | apply TL.block | apply TL.endB | apply TL.exit rfl | apply TL.exitOut rfl | apply TL.ret | apply TL.skip | apply TL.nil | apply loopK.exit rfl | apply loopK.ret | apply loopK.exitOut rfl))
      (first | refine RX.x (OpR.callA (po) (sg [(1000, 1002)]) LeA) rfl ?_ | refine RX.y rfl rfl rfl GdA (OpR.callA (po) (sg [(1000, 1002)]) LeA) ?_); ((repeat (first | (apply RX.kN; refine RX.x OpA rfl ?_) | (apply RX.kG; first | refine RX.y rfl rfl rfl GdA OpA ?_ | refine RX.n rfl rfl rfl GdA rfl rfl ?_ | refine RX.nU rfl rfl rfl rfl rfl ?_ | refine RX.nS rfl rfl rfl GdA rfl ?_))); (try apply RX.nil _ (by kernel_rfl)); repeat (first | apply TL.seq | ((first | apply TL.pl | apply TL.dr _ (by kernel_rfl)); (repeat (first | (apply RX.kN; refine RX.x OpA rfl ?_) | (apply RX.kG; first | refine RX.y rfl rfl rfl GdA OpA ?_ | refine RX.n rfl rfl rfl GdA rfl rfl ?_ | refine RX.nU rfl rfl rfl rfl rfl ?_ | refine RX.nS rfl rfl rfl GdA rfl ?_))); (try apply RX.nil _ (by kernel_rfl))) | (apply TL.kC; first | refine TL.condT rfl DecT ?_ | refine TL.condF rfl DecF ?_ | refine TL.condT rfl BoT ?_ | refine TL.condF rfl BoF ?_) | apply TL.block | apply TL.endB | apply TL.exit rfl | apply TL.exitOut rfl | apply TL.ret | apply TL.skip | apply TL.nil | apply loopK.exit rfl | apply loopK.ret | apply loopK.exitOut rfl))
      exact loopK.normal ⟨k + 1, _, hlt, by omega, LeR (sg [(3000, 22)]) (by rw [hst, List.length_append]; exact LeSA) (by rw [hst]; exact LeA)⟩
    | false =>
      rw [hx] at hst po
      rw [if_neg (by decide)] at hst
      (repeat (first | apply TL.seq | ((first | apply TL.pl | apply TL.dr _ (by kernel_rfl)); (repeat (first | (apply RX.kN; refine RX.x OpA rfl ?_) | (apply RX.kG; first | refine RX.y rfl rfl rfl GdA OpA ?_ | refine RX.n rfl rfl rfl GdA rfl rfl ?_ | refine RX.nU rfl rfl rfl rfl rfl ?_ | refine RX.nS rfl rfl rfl GdA rfl ?_))); (try apply RX.nil _ (by kernel_rfl))) | (apply TL.kC; first | refine TL.condT rfl DecT ?_ | refine TL.condF rfl DecF ?_ | refine TL.condT rfl BoT ?_ | refine TL.condF rfl BoF ?_) | apply TL.block | apply TL.endB | apply TL.exit rfl | apply TL.exitOut rfl | apply TL.ret | apply TL.skip | apply TL.nil | apply loopK.exit rfl | apply loopK.ret | apply loopK.exitOut rfl))
      (first | refine RX.x (OpR.callA (po) (sg [(1000, 1002)]) LeA) rfl ?_ | refine RX.y rfl rfl rfl GdA (OpR.callA (po) (sg [(1000, 1002)]) LeA) ?_); ((repeat (first | (apply RX.kN; refine RX.x OpA rfl ?_) | (apply RX.kG; first | refine RX.y rfl rfl rfl GdA OpA ?_ | refine RX.n rfl rfl rfl GdA rfl rfl ?_ | refine RX.nU rfl rfl rfl rfl rfl ?_ | refine RX.nS rfl rfl rfl GdA rfl ?_))); (try apply RX.nil _ (by kernel_rfl)); repeat (first | apply TL.seq | ((first | apply TL.pl | apply TL.dr _ (by kernel_rfl)); (repeat (first | (apply RX.kN; refine RX.x OpA rfl ?_) | (apply RX.kG; first | refine RX.y rfl rfl rfl GdA OpA ?_ | refine RX.n rfl rfl rfl GdA rfl rfl ?_ | refine RX.nU rfl rfl rfl rfl rfl ?_ | refine RX.nS rfl rfl rfl GdA rfl ?_))); (try apply RX.nil _ (by kernel_rfl))) | (apply TL.kC; first | refine TL.condT rfl DecT ?_ | refine TL.condF rfl DecF ?_ | refine TL.condT rfl BoT ?_ | refine TL.condF rfl BoF ?_) | apply TL.block | apply TL.endB | apply TL.exit rfl | apply TL.exitOut rfl | apply TL.ret | apply TL.skip | apply TL.nil | apply loopK.exit rfl | apply loopK.ret | apply loopK.exitOut rfl))
      exact loopK.normal ⟨k + 1, fun i => i, hlt, by omega, by rw [hst]; exact LeI⟩
  · obtain rfl : k = s.length := by omega
    have hle := needL_len side s s.length
    have hm : ∀ u ∈ needL side s s.length, -9223372036854775808 ≤ u ∧ u ≤ 9223372036854775807 := fun u h => hr u (needL_mem h)
    have ps := sum_s (needL side s s.length) (by omega) hm
    (repeat (first | apply TL.seq | ((first | apply TL.pl | apply TL.dr _ (by kernel_rfl)); (repeat (first | (apply RX.kN; refine RX.x OpA rfl ?_) | (apply RX.kG; first | refine RX.y rfl rfl rfl GdA OpA ?_ | refine RX.n rfl rfl rfl GdA rfl rfl ?_ | refine RX.nU rfl rfl rfl rfl rfl ?_ | refine RX.nS rfl rfl rfl GdA rfl ?_))); (try apply RX.nil _ (by kernel_rfl))) | (apply TL.kC; first | refine TL.condT rfl DecT ?_ | refine TL.condF rfl DecF ?_ | refine TL.condT rfl BoT ?_ | refine TL.condF rfl BoF ?_) | apply TL.block | apply TL.endB | apply TL.exit rfl | apply TL.exitOut rfl | apply TL.ret | apply TL.skip | apply TL.nil | apply loopK.exit rfl | apply loopK.ret | apply loopK.exitOut rfl))
    (first | refine RX.x (OpR.callA (ps) (sg [(1000, 3000)]) LeA) rfl ?_ | refine RX.y rfl rfl rfl GdA (OpR.callA (ps) (sg [(1000, 3000)]) LeA) ?_); ((repeat (first | (apply RX.kN; refine RX.x OpA rfl ?_) | (apply RX.kG; first | refine RX.y rfl rfl rfl GdA OpA ?_ | refine RX.n rfl rfl rfl GdA rfl rfl ?_ | refine RX.nU rfl rfl rfl rfl rfl ?_ | refine RX.nS rfl rfl rfl GdA rfl ?_))); (try apply RX.nil _ (by kernel_rfl)); repeat (first | apply TL.seq | ((first | apply TL.pl | apply TL.dr _ (by kernel_rfl)); (repeat (first | (apply RX.kN; refine RX.x OpA rfl ?_) | (apply RX.kG; first | refine RX.y rfl rfl rfl GdA OpA ?_ | refine RX.n rfl rfl rfl GdA rfl rfl ?_ | refine RX.nU rfl rfl rfl rfl rfl ?_ | refine RX.nS rfl rfl rfl GdA rfl ?_))); (try apply RX.nil _ (by kernel_rfl))) | (apply TL.kC; first | refine TL.condT rfl DecT ?_ | refine TL.condF rfl DecF ?_ | refine TL.condT rfl BoT ?_ | refine TL.condF rfl BoF ?_) | apply TL.block | apply TL.endB | apply TL.exit rfl | apply TL.exitOut rfl | apply TL.ret | apply TL.skip | apply TL.nil | apply loopK.exit rfl | apply loopK.ret | apply loopK.exitOut rfl))
    exact retK.ag (fun i => i) rfl LeA
def otherTo (side : List Bool) (k : Nat) : List Bool := (List.range k).map fun j => !sd side j
def otherN (side : List Bool) (n : Nat) : List Bool := otherTo side (min n 1000)
theorem otherTo_len (side : List Bool) (k : Nat) : (otherTo side k).length = k := by simp [otherTo]
theorem otherTo_succ (side : List Bool) (k : Nat) : otherTo side (k + 1) = otherTo side k ++ [!sd side k] := by simp [otherTo, List.range_succ]
theorem other_s (side : List Bool) (n : Nat) : Spec Try.prog 34 [.a 1000 side.length, iv n] [(1000, .ro eBool side)] (.a 2000 (otherN side n).length) [(2000, .own 4 eBool (otherN side n))] := by
  obtain ⟨m, hm⟩ : ∃ m, min n 1000 = m := ⟨_, rfl⟩
  have hmi : min (n : Int) 1000 = (m : Int) := by omega
  have hm0 : m ≤ 1000 := by omega
  unfold otherN
  rw [hm]
  refine Spec.mk [] Try.call34 Try.func34 Try.ntmps34 Try.results34 rfl (by kernel_rfl) (by kernel_rfl) ?_
  (repeat (first | apply TL.seq | ((first | apply TL.pl | apply TL.dr _ (by kernel_rfl)); (repeat (first | (apply RX.kN; refine RX.x OpA rfl ?_) | (apply RX.kG; first | refine RX.y rfl rfl rfl GdA OpA ?_ | refine RX.n rfl rfl rfl GdA rfl rfl ?_ | refine RX.nU rfl rfl rfl rfl rfl ?_ | refine RX.nS rfl rfl rfl GdA rfl ?_))); (try apply RX.nil _ (by kernel_rfl))) | (apply TL.kC; first | refine TL.condT rfl DecT ?_ | refine TL.condF rfl DecF ?_ | refine TL.condT rfl BoT ?_ | refine TL.condF rfl BoF ?_) | apply TL.block | apply TL.endB | apply TL.exit rfl | apply TL.exitOut rfl | apply TL.ret | apply TL.skip | apply TL.nil | apply loopK.exit rfl | apply loopK.ret | apply loopK.exitOut rfl))
  rw [hmi]
  refine TL.viewNil 5 3000 4 eBool rfl rfl rfl ?_
  refine TL.loop (ρ := fun i => i) (X := Nat) (fun k => ⟨[(0, .a 1000 side.length), (5, .a 3000 (otherTo side k).length), (8, iv m), (9, iv k)], [(1000, .ro eBool side), (3000, .own 4 eBool (otherTo side k))]⟩) (fun k => k ≤ m) (fun k => m - k) 0 (by omega) LeI ?_
  intro k hk
  by_cases hlt : k < m
  · have hst := otherTo_succ side k
    have hle := otherTo_len side k
    generalize otherTo side k = L at *
    have po := on_s side k (by omega)
    (repeat (first | apply TL.seq | ((first | apply TL.pl | apply TL.dr _ (by kernel_rfl)); (repeat (first | (apply RX.kN; refine RX.x OpA rfl ?_) | (apply RX.kG; first | refine RX.y rfl rfl rfl GdA OpA ?_ | refine RX.n rfl rfl rfl GdA rfl rfl ?_ | refine RX.nU rfl rfl rfl rfl rfl ?_ | refine RX.nS rfl rfl rfl GdA rfl ?_))); (try apply RX.nil _ (by kernel_rfl))) | (apply TL.kC; first | refine TL.condT rfl DecT ?_ | refine TL.condF rfl DecF ?_ | refine TL.condT rfl BoT ?_ | refine TL.condF rfl BoF ?_) | apply TL.block | apply TL.endB | apply TL.exit rfl | apply TL.exitOut rfl | apply TL.ret | apply TL.skip | apply TL.nil | apply loopK.exit rfl | apply loopK.ret | apply loopK.exitOut rfl))
    (first | refine RX.x (OpR.callA (po) (sg []) LeA) rfl ?_ | refine RX.y rfl rfl rfl GdA (OpR.callA (po) (sg []) LeA) ?_); ((repeat (first | (apply RX.kN; refine RX.x OpA rfl ?_) | (apply RX.kG; first | refine RX.y rfl rfl rfl GdA OpA ?_ | refine RX.n rfl rfl rfl GdA rfl rfl ?_ | refine RX.nU rfl rfl rfl rfl rfl ?_ | refine RX.nS rfl rfl rfl GdA rfl ?_))); (try apply RX.nil _ (by kernel_rfl)); repeat (first | apply TL.seq | ((first | apply TL.pl | apply TL.dr _ (by kernel_rfl)); (repeat (first | (apply RX.kN; refine RX.x OpA rfl ?_) | (apply RX.kG; first | refine RX.y rfl rfl rfl GdA OpA ?_ | refine RX.n rfl rfl rfl GdA rfl rfl ?_ | refine RX.nU rfl rfl rfl rfl rfl ?_ | refine RX.nS rfl rfl rfl GdA rfl ?_))); (try apply RX.nil _ (by kernel_rfl))) | (apply TL.kC; first | refine TL.condT rfl DecT ?_ | refine TL.condF rfl DecF ?_ | refine TL.condT rfl BoT ?_ | refine TL.condF rfl BoF ?_) | apply TL.block | apply TL.endB | apply TL.exit rfl | apply TL.exitOut rfl | apply TL.ret | apply TL.skip | apply TL.nil | apply loopK.exit rfl | apply loopK.ret | apply loopK.exitOut rfl))
    exact loopK.normal ⟨k + 1, _, hlt, by omega, LeR (sg [(3000, 18)]) (by rw [hst, List.length_append]; exact LeSA) (by rw [hst]; exact LeA)⟩
  · obtain rfl : k = m := by omega
    (repeat (first | apply TL.seq | ((first | apply TL.pl | apply TL.dr _ (by kernel_rfl)); (repeat (first | (apply RX.kN; refine RX.x OpA rfl ?_) | (apply RX.kG; first | refine RX.y rfl rfl rfl GdA OpA ?_ | refine RX.n rfl rfl rfl GdA rfl rfl ?_ | refine RX.nU rfl rfl rfl rfl rfl ?_ | refine RX.nS rfl rfl rfl GdA rfl ?_))); (try apply RX.nil _ (by kernel_rfl))) | (apply TL.kC; first | refine TL.condT rfl DecT ?_ | refine TL.condF rfl DecF ?_ | refine TL.condT rfl BoT ?_ | refine TL.condF rfl BoF ?_) | apply TL.block | apply TL.endB | apply TL.exit rfl | apply TL.exitOut rfl | apply TL.ret | apply TL.skip | apply TL.nil | apply loopK.exit rfl | apply loopK.ret | apply loopK.exitOut rfl))
    exact retK.one (sg [(2000, 3000)]) rfl LeA
end Go.Proofs.Ytiboffhdabeiiaa
