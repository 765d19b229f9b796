/-
  cut: on, over, whether a node is there; by symbolic steps.
-/
import Derived.Test.YtiboffhdabeiiaaSxY
import Derived.Test.YtiboffhdabeiiaaAdA
namespace Go.Proofs.Ytiboffhdabeiiaa
open Go Go.RowKit
/-- Whether a node is on a side. -/
def sd (side : List Bool) (n : Nat) : Bool := side.getD n false
theorem sd_at {side : List Bool} {n : Nat} {b : Bool} (h : side[n]? = some b) : sd side n = b := by simp [sd, List.getD_eq_getElem?_getD, h]
theorem on_s (side : List Bool) (n : Nat) (_hn : n ≤ 1000000000) : Spec Try.prog 81 [.a 1000 side.length, iv n] [(1000, .ro eBool side)] (bv (sd side n)) [] := by
  by_cases h : n < side.length
  · obtain ⟨b, hb⟩ := at_ h
    rw [sd_at hb]
    refine Spec.mk [] Try.call81 Try.func81 Try.ntmps81 Try.results81 rfl (by kernel_rfl) (by kernel_rfl) ?_
    (repeat (first | apply TL.seq | ((first | apply TL.pl | apply TL.dr _ (by kernel_rfl)); (repeat (first | (apply RX.kN; refine RX.x OpA rfl ?_) | (apply RX.kG; first | refine RX.y rfl rfl rfl GdA OpA ?_ | refine RX.n rfl rfl rfl GdA rfl rfl ?_ | refine RX.nU rfl rfl rfl rfl rfl ?_ | refine RX.nS rfl rfl rfl GdA rfl ?_))); (try apply RX.nil _ (by kernel_rfl))) | (apply TL.kC; first | refine TL.condT rfl DecT ?_ | refine TL.condF rfl DecF ?_ | refine TL.condT rfl BoT ?_ | refine TL.condF rfl BoF ?_) | apply TL.block | apply TL.endB | apply TL.exit rfl | apply TL.exitOut rfl | apply TL.ret | apply TL.skip | apply TL.nil | apply loopK.exit rfl | apply loopK.ret | apply loopK.exitOut rfl))
    exact retK.v rfl
  · have e : sd side n = false := by simp only [sd, List.getD_eq_getElem?_getD]; rw [List.getElem?_eq_none (by omega)]; rfl
    rw [e]
    refine Spec.mk [] Try.call81 Try.func81 Try.ntmps81 Try.results81 rfl (by kernel_rfl) (by kernel_rfl) ?_
    (repeat (first | apply TL.seq | ((first | apply TL.pl | apply TL.dr _ (by kernel_rfl)); (repeat (first | (apply RX.kN; refine RX.x OpA rfl ?_) | (apply RX.kG; first | refine RX.y rfl rfl rfl GdA OpA ?_ | refine RX.n rfl rfl rfl GdA rfl rfl ?_ | refine RX.nU rfl rfl rfl rfl rfl ?_ | refine RX.nS rfl rfl rfl GdA rfl ?_))); (try apply RX.nil _ (by kernel_rfl))) | (apply TL.kC; first | refine TL.condT rfl DecT ?_ | refine TL.condF rfl DecF ?_ | refine TL.condT rfl BoT ?_ | refine TL.condF rfl BoF ?_) | apply TL.block | apply TL.endB | apply TL.exit rfl | apply TL.exitOut rfl | apply TL.ret | apply TL.skip | apply TL.nil | apply loopK.exit rfl | apply loopK.ret | apply loopK.exitOut rfl))
    exact retK.v rfl
@[reducible] def cI (s : List Int) (l : List PArc) : Chunk := .cells 25 [.a 1000 s.length, .a 1001 l.length]
@[reducible] def cS (side : List Bool) : Chunk := .cells 26 [.a 1002 side.length]
@[reducible] def hB (side : List Bool) : List (Nat × Chunk) := [(1002, .ro eBool side)]
theorem over_s (s : List Int) (l : List PArc) (side : List Bool) : Spec Try.prog 93 [vI s l, .a 1002 side.length] (hI s l ++ hB side) (.fn 136 [.p 2000 0, .p 2001 0]) [(2000, cI s l), (2001, cS side)] := by
  refine Spec.mk [1000, 1001, 1002] Try.call93 Try.func93 Try.ntmps93 Try.results93 rfl (by kernel_rfl) (by kernel_rfl) ?_
  (repeat (first | apply TL.seq | ((first | apply TL.pl | apply TL.dr _ (by kernel_rfl)); (repeat (first | (apply RX.kN; refine RX.x OpA rfl ?_) | (apply RX.kG; first | refine RX.y rfl rfl rfl GdA OpA ?_ | refine RX.n rfl rfl rfl GdA rfl rfl ?_ | refine RX.nU rfl rfl rfl rfl rfl ?_ | refine RX.nS rfl rfl rfl GdA rfl ?_))); (try apply RX.nil _ (by kernel_rfl))) | (apply TL.kC; first | refine TL.condT rfl DecT ?_ | refine TL.condF rfl DecF ?_ | refine TL.condT rfl BoT ?_ | refine TL.condF rfl BoF ?_) | apply TL.block | apply TL.endB | apply TL.exit rfl | apply TL.exitOut rfl | apply TL.ret | apply TL.skip | apply TL.nil | apply loopK.exit rfl | apply loopK.ret | apply loopK.exitOut rfl))
  exact retK.one (sg [(2000, 2), (2001, 3)]) rfl LeA
theorem isNode_s (s : List Int) (l : List PArc) (n : Int) : Spec Try.prog 137 [iv n, .p 1003 0] (hI s l ++ [(1003, cI s l)]) (bv (decide (0 ≤ n ∧ n < s.length))) [(1003, cI s l)] := by
  by_cases h1 : 0 ≤ n
  · by_cases h2 : n < s.length
    · rw [dT (show 0 ≤ n ∧ n < (s.length : Int) from ⟨h1, h2⟩)]
      refine Spec.mk [1000, 1001, 1003] Try.call137 Try.func137 Try.ntmps137 Try.results137 rfl (by kernel_rfl) (by kernel_rfl) ?_
      (repeat (first | apply TL.seq | ((first | apply TL.pl | apply TL.dr _ (by kernel_rfl)); (repeat (first | (apply RX.kN; refine RX.x OpA rfl ?_) | (apply RX.kG; first | refine RX.y rfl rfl rfl GdA OpA ?_ | refine RX.n rfl rfl rfl GdA rfl rfl ?_ | refine RX.nU rfl rfl rfl rfl rfl ?_ | refine RX.nS rfl rfl rfl GdA rfl ?_))); (try apply RX.nil _ (by kernel_rfl))) | (apply TL.kC; first | refine TL.condT rfl DecT ?_ | refine TL.condF rfl DecF ?_ | refine TL.condT rfl BoT ?_ | refine TL.condF rfl BoF ?_) | apply TL.block | apply TL.endB | apply TL.exit rfl | apply TL.exitOut rfl | apply TL.ret | apply TL.skip | apply TL.nil | apply loopK.exit rfl | apply loopK.ret | apply loopK.exitOut rfl))
      exact retK.vp (fun i => i) (vBool (dT h2)) LeA
    · rw [dF (show ¬ (0 ≤ n ∧ n < (s.length : Int)) from fun h => h2 h.2)]
      refine Spec.mk [1000, 1001, 1003] Try.call137 Try.func137 Try.ntmps137 Try.results137 rfl (by kernel_rfl) (by kernel_rfl) ?_
      (repeat (first | apply TL.seq | ((first | apply TL.pl | apply TL.dr _ (by kernel_rfl)); (repeat (first | (apply RX.kN; refine RX.x OpA rfl ?_) | (apply RX.kG; first | refine RX.y rfl rfl rfl GdA OpA ?_ | refine RX.n rfl rfl rfl GdA rfl rfl ?_ | refine RX.nU rfl rfl rfl rfl rfl ?_ | refine RX.nS rfl rfl rfl GdA rfl ?_))); (try apply RX.nil _ (by kernel_rfl))) | (apply TL.kC; first | refine TL.condT rfl DecT ?_ | refine TL.condF rfl DecF ?_ | refine TL.condT rfl BoT ?_ | refine TL.condF rfl BoF ?_) | apply TL.block | apply TL.endB | apply TL.exit rfl | apply TL.exitOut rfl | apply TL.ret | apply TL.skip | apply TL.nil | apply loopK.exit rfl | apply loopK.ret | apply loopK.exitOut rfl))
      exact retK.vp (fun i => i) (vBool (dF h2)) LeA
  · rw [dF (show ¬ (0 ≤ n ∧ n < (s.length : Int)) from fun h => h1 h.1)]
    refine Spec.mk [1000, 1001, 1003] Try.call137 Try.func137 Try.ntmps137 Try.results137 rfl (by kernel_rfl) (by kernel_rfl) ?_
    (repeat (first | apply TL.seq | ((first | apply TL.pl | apply TL.dr _ (by kernel_rfl)); (repeat (first | (apply RX.kN; refine RX.x OpA rfl ?_) | (apply RX.kG; first | refine RX.y rfl rfl rfl GdA OpA ?_ | refine RX.n rfl rfl rfl GdA rfl rfl ?_ | refine RX.nU rfl rfl rfl rfl rfl ?_ | refine RX.nS rfl rfl rfl GdA rfl ?_))); (try apply RX.nil _ (by kernel_rfl))) | (apply TL.kC; first | refine TL.condT rfl DecT ?_ | refine TL.condF rfl DecF ?_ | refine TL.condT rfl BoT ?_ | refine TL.condF rfl BoF ?_) | apply TL.block | apply TL.endB | apply TL.exit rfl | apply TL.exitOut rfl | apply TL.ret | apply TL.skip | apply TL.nil | apply loopK.exit rfl | apply loopK.ret | apply loopK.exitOut rfl))
    exact retK.vp (fun i => i) rfl LeA
end Go.Proofs.Ytiboffhdabeiiaa
