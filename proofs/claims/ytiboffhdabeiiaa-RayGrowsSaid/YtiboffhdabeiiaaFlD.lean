/-
  flow: Room; chapter 09's Flow, Wides; by symbolic steps.
-/
import Derived.Test.YtiboffhdabeiiaaFlC
namespace Go.Proofs.Ytiboffhdabeiiaa
open Go Go.RowKit
theorem room_yes (s : List Int) (l : List PArc) (x : List Int) (k : Nat) (a : PArc) (n : Int) (ha : l[k]? = some a) (hn : x[k]? = some n) (hf : fitB a n = true) (h0 : 0 ≤ a.lo) (h1 : n ≤ 9223372036854775807) (h2 : a.ca ≤ 9223372036854775807) :
    Spec Try.prog 47 [vI s l, .a 1002 x.length, iv k] (hI s l ++ hX x) (.tup [iv (if a.ca = 4611686018427387904 then 4611686018427387904 else a.ca - n), iv (n - a.lo)]) [] := by
  have hlt := (List.getElem?_eq_some_iff.1 ha).1
  have hlt2 := (List.getElem?_eq_some_iff.1 hn).1
  have hf2 : (!fitB a n) = false := by rw [hf]; rfl
  have hf3 := hf
  simp only [fitB, decide_eq_true_eq] at hf3
  obtain ⟨g1, g2⟩ := hf3
  by_cases hc : a.ca = 4611686018427387904
  · rw [if_pos hc]
    refine Spec.mk [] Try.call47 Try.func47 Try.ntmps47 Try.results47 rfl (by kernel_rfl) (by kernel_rfl) ?_
    (repeat (first | apply TL.seq | ((first | apply TL.pl | apply TL.dr _ (by kernel_rfl)); (repeat (first | (apply RX.kN; refine RX.x OpA rfl ?_) | (apply RX.kG; first | refine RX.y rfl rfl rfl GdA OpA ?_ | refine RX.n rfl rfl rfl GdA rfl rfl ?_ | refine RX.nU rfl rfl rfl rfl rfl ?_ | refine RX.nS rfl rfl rfl GdA rfl ?_))); (try apply RX.nil _ (by kernel_rfl))) | (apply TL.kC; first | refine TL.condT rfl DecT ?_ | refine TL.condF rfl DecF ?_ | refine TL.condT rfl BoT ?_ | refine TL.condF rfl BoF ?_) | apply TL.block | apply TL.endB | apply TL.exit rfl | apply TL.exitOut rfl | apply TL.ret | apply TL.skip | apply TL.nil | apply loopK.exit rfl | apply loopK.ret | apply loopK.exitOut rfl))
    (first | refine RX.x (OpR.callA (fat_in x k n hn) (sg [(1000, 1002)]) LeA) rfl ?_ | refine RX.y rfl rfl rfl GdA (OpR.callA (fat_in x k n hn) (sg [(1000, 1002)]) LeA) ?_); ((repeat (first | (apply RX.kN; refine RX.x OpA rfl ?_) | (apply RX.kG; first | refine RX.y rfl rfl rfl GdA OpA ?_ | refine RX.n rfl rfl rfl GdA rfl rfl ?_ | refine RX.nU rfl rfl rfl rfl rfl ?_ | refine RX.nS rfl rfl rfl GdA rfl ?_))); (try apply RX.nil _ (by kernel_rfl)); repeat (first | apply TL.seq | ((first | apply TL.pl | apply TL.dr _ (by kernel_rfl)); (repeat (first | (apply RX.kN; refine RX.x OpA rfl ?_) | (apply RX.kG; first | refine RX.y rfl rfl rfl GdA OpA ?_ | refine RX.n rfl rfl rfl GdA rfl rfl ?_ | refine RX.nU rfl rfl rfl rfl rfl ?_ | refine RX.nS rfl rfl rfl GdA rfl ?_))); (try apply RX.nil _ (by kernel_rfl))) | (apply TL.kC; first | refine TL.condT rfl DecT ?_ | refine TL.condF rfl DecF ?_ | refine TL.condT rfl BoT ?_ | refine TL.condF rfl BoF ?_) | apply TL.block | apply TL.endB | apply TL.exit rfl | apply TL.exitOut rfl | apply TL.ret | apply TL.skip | apply TL.nil | apply loopK.exit rfl | apply loopK.ret | apply loopK.exitOut rfl))
    (first | refine RX.x (OpR.callA (fits1_s a n) (sg []) LeA) rfl ?_ | refine RX.y rfl rfl rfl GdA (OpR.callA (fits1_s a n) (sg []) LeA) ?_); ((repeat (first | (apply RX.kN; refine RX.x OpA rfl ?_) | (apply RX.kG; first | refine RX.y rfl rfl rfl GdA OpA ?_ | refine RX.n rfl rfl rfl GdA rfl rfl ?_ | refine RX.nU rfl rfl rfl rfl rfl ?_ | refine RX.nS rfl rfl rfl GdA rfl ?_))); (try apply RX.nil _ (by kernel_rfl)); repeat (first | apply TL.seq | ((first | apply TL.pl | apply TL.dr _ (by kernel_rfl)); (repeat (first | (apply RX.kN; refine RX.x OpA rfl ?_) | (apply RX.kG; first | refine RX.y rfl rfl rfl GdA OpA ?_ | refine RX.n rfl rfl rfl GdA rfl rfl ?_ | refine RX.nU rfl rfl rfl rfl rfl ?_ | refine RX.nS rfl rfl rfl GdA rfl ?_))); (try apply RX.nil _ (by kernel_rfl))) | (apply TL.kC; first | refine TL.condT rfl DecT ?_ | refine TL.condF rfl DecF ?_ | refine TL.condT rfl BoT ?_ | refine TL.condF rfl BoF ?_) | apply TL.block | apply TL.endB | apply TL.exit rfl | apply TL.exitOut rfl | apply TL.ret | apply TL.skip | apply TL.nil | apply loopK.exit rfl | apply loopK.ret | apply loopK.exitOut rfl))
    exact retK.two (fun i => i) rfl rfl trivial
  · rw [if_neg hc]
    have g3 : n ≤ a.ca := by omega
    refine Spec.mk [] Try.call47 Try.func47 Try.ntmps47 Try.results47 rfl (by kernel_rfl) (by kernel_rfl) ?_
    (repeat (first | apply TL.seq | ((first | apply TL.pl | apply TL.dr _ (by kernel_rfl)); (repeat (first | (apply RX.kN; refine RX.x OpA rfl ?_) | (apply RX.kG; first | refine RX.y rfl rfl rfl GdA OpA ?_ | refine RX.n rfl rfl rfl GdA rfl rfl ?_ | refine RX.nU rfl rfl rfl rfl rfl ?_ | refine RX.nS rfl rfl rfl GdA rfl ?_))); (try apply RX.nil _ (by kernel_rfl))) | (apply TL.kC; first | refine TL.condT rfl DecT ?_ | refine TL.condF rfl DecF ?_ | refine TL.condT rfl BoT ?_ | refine TL.condF rfl BoF ?_) | apply TL.block | apply TL.endB | apply TL.exit rfl | apply TL.exitOut rfl | apply TL.ret | apply TL.skip | apply TL.nil | apply loopK.exit rfl | apply loopK.ret | apply loopK.exitOut rfl))
    (first | refine RX.x (OpR.callA (fat_in x k n hn) (sg [(1000, 1002)]) LeA) rfl ?_ | refine RX.y rfl rfl rfl GdA (OpR.callA (fat_in x k n hn) (sg [(1000, 1002)]) LeA) ?_); ((repeat (first | (apply RX.kN; refine RX.x OpA rfl ?_) | (apply RX.kG; first | refine RX.y rfl rfl rfl GdA OpA ?_ | refine RX.n rfl rfl rfl GdA rfl rfl ?_ | refine RX.nU rfl rfl rfl rfl rfl ?_ | refine RX.nS rfl rfl rfl GdA rfl ?_))); (try apply RX.nil _ (by kernel_rfl)); repeat (first | apply TL.seq | ((first | apply TL.pl | apply TL.dr _ (by kernel_rfl)); (repeat (first | (apply RX.kN; refine RX.x OpA rfl ?_) | (apply RX.kG; first | refine RX.y rfl rfl rfl GdA OpA ?_ | refine RX.n rfl rfl rfl GdA rfl rfl ?_ | refine RX.nU rfl rfl rfl rfl rfl ?_ | refine RX.nS rfl rfl rfl GdA rfl ?_))); (try apply RX.nil _ (by kernel_rfl))) | (apply TL.kC; first | refine TL.condT rfl DecT ?_ | refine TL.condF rfl DecF ?_ | refine TL.condT rfl BoT ?_ | refine TL.condF rfl BoF ?_) | apply TL.block | apply TL.endB | apply TL.exit rfl | apply TL.exitOut rfl | apply TL.ret | apply TL.skip | apply TL.nil | apply loopK.exit rfl | apply loopK.ret | apply loopK.exitOut rfl))
    (first | refine RX.x (OpR.callA (fits1_s a n) (sg []) LeA) rfl ?_ | refine RX.y rfl rfl rfl GdA (OpR.callA (fits1_s a n) (sg []) LeA) ?_); ((repeat (first | (apply RX.kN; refine RX.x OpA rfl ?_) | (apply RX.kG; first | refine RX.y rfl rfl rfl GdA OpA ?_ | refine RX.n rfl rfl rfl GdA rfl rfl ?_ | refine RX.nU rfl rfl rfl rfl rfl ?_ | refine RX.nS rfl rfl rfl GdA rfl ?_))); (try apply RX.nil _ (by kernel_rfl)); repeat (first | apply TL.seq | ((first | apply TL.pl | apply TL.dr _ (by kernel_rfl)); (repeat (first | (apply RX.kN; refine RX.x OpA rfl ?_) | (apply RX.kG; first | refine RX.y rfl rfl rfl GdA OpA ?_ | refine RX.n rfl rfl rfl GdA rfl rfl ?_ | refine RX.nU rfl rfl rfl rfl rfl ?_ | refine RX.nS rfl rfl rfl GdA rfl ?_))); (try apply RX.nil _ (by kernel_rfl))) | (apply TL.kC; first | refine TL.condT rfl DecT ?_ | refine TL.condF rfl DecF ?_ | refine TL.condT rfl BoT ?_ | refine TL.condF rfl BoF ?_) | apply TL.block | apply TL.endB | apply TL.exit rfl | apply TL.exitOut rfl | apply TL.ret | apply TL.skip | apply TL.nil | apply loopK.exit rfl | apply loopK.ret | apply loopK.exitOut rfl))
    exact retK.two (fun i => i) rfl rfl trivial
def flowE (d : List Nat) (k : Nat) (a : PArc) : Int := if k + 1 < d.length then min (a.lo + ((d.getD (k + 1) 0 : Nat) : Int) % 4) a.ca else a.lo
def flowN (d : List Nat) (l : List PArc) : List Int := (List.range l.length).map fun k => flowE d k (l.getD k ⟨0, 0, 0, 0, 0⟩)
theorem flowN_len (d : List Nat) (l : List PArc) : (flowN d l).length = l.length := by simp [flowN]
theorem flowN_at {d : List Nat} {l : List PArc} {k : Nat} {a : PArc} (h : l[k]? = some a) : (flowN d l)[k]? = some (flowE d k a) := by
  have hlt := (List.getElem?_eq_some_iff.1 h).1
  unfold flowN
  rw [List.getElem?_map, List.getElem?_range hlt, Option.map_some, List.getD_eq_getElem?_getD, h]
  rfl
set_option maxHeartbeats 1000000 in
theorem flow_s (s : List Int) (l : List PArc) (d : List Nat) (h1 : l.length ≤ 1000000000) (hd : ∀ b ∈ d, b < 256) (hl : ∀ a ∈ l, -4611686018427387904 ≤ a.lo ∧ a.lo ≤ 4611686018427387904) :
    Spec Try.prog 42 [vI s l, .a 1002 d.length] (hI s l ++ [(1002, .ro eByt d)]) (.a 2000 (flowN d l).length) [(2000, .own 2 eInt (flowN d l))] := by
  have hF := flowN_len d l
  refine Spec.mk [] Try.call42 Try.func42 Try.ntmps42 Try.results42 rfl (by kernel_rfl) (by kernel_rfl) ?_
  (repeat (first | apply TL.seq | ((first | apply TL.pl | apply TL.dr _ (by kernel_rfl)); (repeat (first | (apply RX.kN; refine RX.x OpA rfl ?_) | (apply RX.kG; first | refine RX.y rfl rfl rfl GdA OpA ?_ | refine RX.n rfl rfl rfl GdA rfl rfl ?_ | refine RX.nU rfl rfl rfl rfl rfl ?_ | refine RX.nS rfl rfl rfl GdA rfl ?_))); (try apply RX.nil _ (by kernel_rfl))) | (apply TL.kC; first | refine TL.condT rfl DecT ?_ | refine TL.condF rfl DecF ?_ | refine TL.condT rfl BoT ?_ | refine TL.condF rfl BoF ?_) | apply TL.block | apply TL.endB | apply TL.exit rfl | apply TL.exitOut rfl | apply TL.ret | apply TL.skip | apply TL.nil | apply loopK.exit rfl | apply loopK.ret | apply loopK.exitOut rfl))
  refine TL.viewNil 5 3000 2 eInt rfl rfl rfl ?_
  refine TL.loop (X := Nat) (fun k => ⟨[(1, .a 1002 d.length), (2, .p 2 0), (5, .a 3000 ((flowN d l).take k).length), (6, iv k)], [(1000, .ro eInt s), (1001, .ro eArc l), (1002, .ro eByt d), (2, .cells 25 [.a 1000 s.length, .a 1001 l.length]), (3000, .own 2 eInt ((flowN d l).take k))]⟩) (fun k => k ≤ l.length) (fun k => l.length - k) 0 (by omega) LeI ?_
  intro k hk
  by_cases hlt : k < l.length
  · obtain ⟨a, ha⟩ := at_ hlt
    obtain ⟨b1, b2⟩ := hl a (List.mem_of_getElem? ha)
    have hkl : ((flowN d l).take k).length = k := by rw [List.length_take, hF]; omega
    have hy : (flowN d l).take (k + 1) = (flowN d l).take k ++ [flowE d k a] := take_snoc (flowN_at ha)
    by_cases hd1 : k + 1 < d.length
    · obtain ⟨b, hb⟩ := at_ hd1
      have hb2 := hd b (List.mem_of_getElem? hb)
      have hE : flowE d k a = min (a.lo + (b : Int) % 4) a.ca := by unfold flowE; rw [if_pos hd1, List.getD_eq_getElem?_getD, hb]; rfl
      have hb' : d[((k : Int) + 1).toNat]? = some b := by rw [show ((k : Int) + 1).toNat = k + 1 by omega]; exact hb
      rw [hE] at hy
      (repeat (first | apply TL.seq | ((first | apply TL.pl | apply TL.dr _ (by kernel_rfl)); (repeat (first | (apply RX.kN; refine RX.x OpA rfl ?_) | (apply RX.kG; first | refine RX.y rfl rfl rfl GdA OpA ?_ | refine RX.n rfl rfl rfl GdA rfl rfl ?_ | refine RX.nU rfl rfl rfl rfl rfl ?_ | refine RX.nS rfl rfl rfl GdA rfl ?_))); (try apply RX.nil _ (by kernel_rfl))) | (apply TL.kC; first | refine TL.condT rfl DecT ?_ | refine TL.condF rfl DecF ?_ | refine TL.condT rfl BoT ?_ | refine TL.condF rfl BoF ?_) | apply TL.block | apply TL.endB | apply TL.exit rfl | apply TL.exitOut rfl | apply TL.ret | apply TL.skip | apply TL.nil | apply loopK.exit rfl | apply loopK.ret | apply loopK.exitOut rfl))
      exact loopK.normal ⟨k + 1, _, hlt, by omega, LeR (sg [(3000, 44)]) (by rw [hy, List.length_append]; exact LeSA) (by rw [hy]; exact LeA)⟩
    · have hE : flowE d k a = a.lo := by unfold flowE; rw [if_neg hd1]
      rw [hE] at hy
      (repeat (first | apply TL.seq | ((first | apply TL.pl | apply TL.dr _ (by kernel_rfl)); (repeat (first | (apply RX.kN; refine RX.x OpA rfl ?_) | (apply RX.kG; first | refine RX.y rfl rfl rfl GdA OpA ?_ | refine RX.n rfl rfl rfl GdA rfl rfl ?_ | refine RX.nU rfl rfl rfl rfl rfl ?_ | refine RX.nS rfl rfl rfl GdA rfl ?_))); (try apply RX.nil _ (by kernel_rfl))) | (apply TL.kC; first | refine TL.condT rfl DecT ?_ | refine TL.condF rfl DecF ?_ | refine TL.condT rfl BoT ?_ | refine TL.condF rfl BoF ?_) | apply TL.block | apply TL.endB | apply TL.exit rfl | apply TL.exitOut rfl | apply TL.ret | apply TL.skip | apply TL.nil | apply loopK.exit rfl | apply loopK.ret | apply loopK.exitOut rfl))
      exact loopK.normal ⟨k + 1, _, hlt, by omega, LeR (sg [(3000, 44)]) (by rw [hy, List.length_append]; exact LeSA) (by rw [hy]; exact LeA)⟩
  · have : (flowN d l).take k = flowN d l := List.take_of_length_le (by rw [hF]; omega)
    rw [this]
    (repeat (first | apply TL.seq | ((first | apply TL.pl | apply TL.dr _ (by kernel_rfl)); (repeat (first | (apply RX.kN; refine RX.x OpA rfl ?_) | (apply RX.kG; first | refine RX.y rfl rfl rfl GdA OpA ?_ | refine RX.n rfl rfl rfl GdA rfl rfl ?_ | refine RX.nU rfl rfl rfl rfl rfl ?_ | refine RX.nS rfl rfl rfl GdA rfl ?_))); (try apply RX.nil _ (by kernel_rfl))) | (apply TL.kC; first | refine TL.condT rfl DecT ?_ | refine TL.condF rfl DecF ?_ | refine TL.condT rfl BoT ?_ | refine TL.condF rfl BoF ?_) | apply TL.block | apply TL.endB | apply TL.exit rfl | apply TL.exitOut rfl | apply TL.ret | apply TL.skip | apply TL.nil | apply loopK.exit rfl | apply loopK.ret | apply loopK.exitOut rfl))
    exact retK.one (sg [(2000, 3000)]) rfl LeA
theorem wides09_s (A : List PW) (h : A.length ≤ 1000000000) : Spec Try.prog 87 [.a 1000 A.length, .a 1001 A.length] [(1000, .ro eWide A), (1001, .ro eWide A)] (bv true) [] := by
  refine Spec.mk [] Try.call87 Try.func87 Try.ntmps87 Try.results87 rfl (by kernel_rfl) (by kernel_rfl) ?_
  (repeat (first | apply TL.seq | ((first | apply TL.pl | apply TL.dr _ (by kernel_rfl)); (repeat (first | (apply RX.kN; refine RX.x OpA rfl ?_) | (apply RX.kG; first | refine RX.y rfl rfl rfl GdA OpA ?_ | refine RX.n rfl rfl rfl GdA rfl rfl ?_ | refine RX.nU rfl rfl rfl rfl rfl ?_ | refine RX.nS rfl rfl rfl GdA rfl ?_))); (try apply RX.nil _ (by kernel_rfl))) | (apply TL.kC; first | refine TL.condT rfl DecT ?_ | refine TL.condF rfl DecF ?_ | refine TL.condT rfl BoT ?_ | refine TL.condF rfl BoF ?_) | apply TL.block | apply TL.endB | apply TL.exit rfl | apply TL.exitOut rfl | apply TL.ret | apply TL.skip | apply TL.nil | apply loopK.exit rfl | apply loopK.ret | apply loopK.exitOut rfl))
  refine TL.loop (ρ := fun i => i) (X := Nat) (fun k => ⟨[(0, .a 1000 A.length), (1, .a 1001 A.length), (5, iv k)], [(1000, .ro eWide A), (1001, .ro eWide A)]⟩) (fun k => k ≤ A.length) (fun k => A.length - k) 0 (by omega) LeI ?_
  intro k hk
  by_cases hlt : k < A.length
  · obtain ⟨u, hu⟩ := at_ hlt
    have hc2 : ¬ ¬ (u.hi = u.hi ∧ u.lo = u.lo) := fun h => h ⟨rfl, rfl⟩
    (repeat (first | apply TL.seq | ((first | apply TL.pl | apply TL.dr _ (by kernel_rfl)); (repeat (first | (apply RX.kN; refine RX.x OpA rfl ?_) | (apply RX.kG; first | refine RX.y rfl rfl rfl GdA OpA ?_ | refine RX.n rfl rfl rfl GdA rfl rfl ?_ | refine RX.nU rfl rfl rfl rfl rfl ?_ | refine RX.nS rfl rfl rfl GdA rfl ?_))); (try apply RX.nil _ (by kernel_rfl))) | (apply TL.kC; first | refine TL.condT rfl DecT ?_ | refine TL.condF rfl DecF ?_ | refine TL.condT rfl BoT ?_ | refine TL.condF rfl BoF ?_) | apply TL.block | apply TL.endB | apply TL.exit rfl | apply TL.exitOut rfl | apply TL.ret | apply TL.skip | apply TL.nil | apply loopK.exit rfl | apply loopK.ret | apply loopK.exitOut rfl))
    exact loopK.normal ⟨k + 1, fun i => i, hlt, by omega, LeI⟩
  · (repeat (first | apply TL.seq | ((first | apply TL.pl | apply TL.dr _ (by kernel_rfl)); (repeat (first | (apply RX.kN; refine RX.x OpA rfl ?_) | (apply RX.kG; first | refine RX.y rfl rfl rfl GdA OpA ?_ | refine RX.n rfl rfl rfl GdA rfl rfl ?_ | refine RX.nU rfl rfl rfl rfl rfl ?_ | refine RX.nS rfl rfl rfl GdA rfl ?_))); (try apply RX.nil _ (by kernel_rfl))) | (apply TL.kC; first | refine TL.condT rfl DecT ?_ | refine TL.condF rfl DecF ?_ | refine TL.condT rfl BoT ?_ | refine TL.condF rfl BoF ?_) | apply TL.block | apply TL.endB | apply TL.exit rfl | apply TL.exitOut rfl | apply TL.ret | apply TL.skip | apply TL.nil | apply loopK.exit rfl | apply loopK.ret | apply loopK.exitOut rfl))
    exact retK.v rfl
end Go.Proofs.Ytiboffhdabeiiaa
