/-
  Instances made of bytes: Arcs, Inst, Marks; by symbolic steps.
-/
import Derived.Test.YtiboffhdabeiiaaSqF
namespace Go.Proofs.Ytiboffhdabeiiaa
open Go Go.RowKit
def arcOf (n : Int) (b0 b1 b2 b3 : Nat) : PArc :=
  ⟨(b0 : Int) % n, (b0 : Int) / 16 % n, if b3 % 8 = 1 then 0 else (b1 : Int) % 3, if b3 % 8 = 0 then 4611686018427387904 else (b1 : Int) % 3 + (b1 : Int) / 3 % 6, if b3 % 8 = 2 then 0 else (b2 : Int) % 21 - 8⟩
def arcAt (c : List Nat) (n : Int) (i : Nat) : PArc := arcOf n (c.getD (4 * i) 0) (c.getD (4 * i + 1) 0) (c.getD (4 * i + 2) 0) (c.getD (4 * i + 3) 0)
def arcsTo (c : List Nat) (n : Int) (k : Nat) : List PArc := (List.range k).map (arcAt c n)
def arcsQ (c : List Nat) : Nat := min 18 (c.length / 4)
def arcsN (c : List Nat) (n : Int) : List PArc := arcsTo c n (arcsQ c)
theorem arcsTo_step (c : List Nat) (n : Int) (k : Nat) : arcsTo c n (k + 1) = arcsTo c n k ++ [arcAt c n k] := by
  simp [arcsTo, List.range_succ]
theorem arcsTo_len (c : List Nat) (n : Int) (k : Nat) : (arcsTo c n k).length = k := by simp [arcsTo]
theorem byte_at {c : List Nat} (hc : ∀ x ∈ c, x < 256) {k : Nat} (h : k < c.length) : ∃ b, c[k]? = some b ∧ b < 256 := by
  obtain ⟨b, hb⟩ := at_ h
  exact ⟨b, hb, hc b (List.mem_of_getElem? hb)⟩
set_option maxHeartbeats 1000000 in
theorem arcs_s (c : List Nat) (n : Int) (hc : ∀ x ∈ c, x < 256) (h1 : c.length ≤ 9223372036854775807) (hn : 0 < n) : Spec Try.prog 73 [.a 1000 c.length, iv n] [(1000, .ro eByt c)] (.a 2000 (arcsN c n).length) [(2000, .own 44 eArc (arcsN c n))] := by
  refine Spec.mk [] Try.call73 Try.func73 Try.ntmps73 Try.results73 rfl (by kernel_rfl) (by kernel_rfl) ?_
  (repeat (first | apply TL.seq | ((first | apply TL.pl | apply TL.dr _ (by kernel_rfl)); (repeat (first | (apply RX.kN; refine RX.x OpA rfl ?_) | (apply RX.kG; first | refine RX.y rfl rfl rfl GdA OpA ?_ | refine RX.n rfl rfl rfl GdA rfl rfl ?_ | refine RX.nU rfl rfl rfl rfl rfl ?_ | refine RX.nS rfl rfl rfl GdA rfl ?_))); (try apply RX.nil _ (by kernel_rfl))) | (apply TL.kC; first | refine TL.condT rfl DecT ?_ | refine TL.condF rfl DecF ?_ | refine TL.condT rfl BoT ?_ | refine TL.condF rfl BoF ?_) | apply TL.block | apply TL.endB | apply TL.exit rfl | apply TL.exitOut rfl | apply TL.ret | apply TL.skip | apply TL.nil | apply loopK.exit rfl | apply loopK.ret | apply loopK.exitOut rfl))
  refine TL.viewNil 5 3000 44 eArc rfl rfl rfl ?_
  refine TL.loop (X := Nat) (fun k => ⟨[(0, .a 1000 c.length), (1, iv n), (5, .a 3000 (arcsTo c n k).length), (6, iv ((4 * k : Nat) : Int))], [(1000, .ro eByt c), (3000, .own 44 eArc (arcsTo c n k))]⟩) (fun k => k ≤ arcsQ c) (fun k => arcsQ c - k) 0 (by omega) LeI ?_
  intro k hk
  have hkl := arcsTo_len c n k
  have hq : arcsQ c = min 18 (c.length / 4) := rfl
  by_cases hlt : k < arcsQ c
  · have h4 : 4 * k + 3 < c.length := by omega
    obtain ⟨b0, e0, f0⟩ := byte_at hc (k := 4 * k) (by omega)
    obtain ⟨b1, e1, f1⟩ := byte_at hc (k := 4 * k + 1) (by omega)
    obtain ⟨b2, e2, f2⟩ := byte_at hc (k := 4 * k + 2) (by omega)
    obtain ⟨b3, e3, f3⟩ := byte_at hc (k := 4 * k + 3) (by omega)
    have ha : arcAt c n k = arcOf n b0 b1 b2 b3 := by
      unfold arcAt
      rw [getD_at e0, getD_at e1, getD_at e2, getD_at e3]
    have g1 : c[(((4 * k : Nat) : Int) + 1).toNat]? = some b1 := by rw [← e1]; congr 1
    have g2 : c[(((4 * k : Nat) : Int) + 2).toNat]? = some b2 := by rw [← e2]; congr 1
    have g3 : c[(((4 * k : Nat) : Int) + 3).toNat]? = some b3 := by rw [← e3]; congr 1
    have hy := arcsTo_step c n k
    rw [ha] at hy
    by_cases z0 : b3 % 8 = 0
    · rw [arcOf, if_pos z0, if_neg (by omega), if_neg (by omega)] at hy
      (repeat (first | apply TL.seq | ((first | apply TL.pl | apply TL.dr _ (by kernel_rfl)); (repeat (first | (apply RX.kN; refine RX.x OpA rfl ?_) | (apply RX.kG; first | refine RX.y rfl rfl rfl GdA OpA ?_ | refine RX.n rfl rfl rfl GdA rfl rfl ?_ | refine RX.nU rfl rfl rfl rfl rfl ?_ | refine RX.nS rfl rfl rfl GdA rfl ?_))); (try apply RX.nil _ (by kernel_rfl))) | (apply TL.kC; first | refine TL.condT rfl DecT ?_ | refine TL.condF rfl DecF ?_ | refine TL.condT rfl BoT ?_ | refine TL.condF rfl BoF ?_) | apply TL.block | apply TL.endB | apply TL.exit rfl | apply TL.exitOut rfl | apply TL.ret | apply TL.skip | apply TL.nil | apply loopK.exit rfl | apply loopK.ret | apply loopK.exitOut rfl))
      exact loopK.normal ⟨k + 1, _, hlt, by omega, LeR (sg [(3000, 80)]) (by rw [hy, List.length_append]; exact LeSA) (by rw [hy]; exact LeA)⟩
    by_cases z1 : b3 % 8 = 1
    · rw [arcOf, if_pos z1, if_neg z0, if_neg (by omega)] at hy
      (repeat (first | apply TL.seq | ((first | apply TL.pl | apply TL.dr _ (by kernel_rfl)); (repeat (first | (apply RX.kN; refine RX.x OpA rfl ?_) | (apply RX.kG; first | refine RX.y rfl rfl rfl GdA OpA ?_ | refine RX.n rfl rfl rfl GdA rfl rfl ?_ | refine RX.nU rfl rfl rfl rfl rfl ?_ | refine RX.nS rfl rfl rfl GdA rfl ?_))); (try apply RX.nil _ (by kernel_rfl))) | (apply TL.kC; first | refine TL.condT rfl DecT ?_ | refine TL.condF rfl DecF ?_ | refine TL.condT rfl BoT ?_ | refine TL.condF rfl BoF ?_) | apply TL.block | apply TL.endB | apply TL.exit rfl | apply TL.exitOut rfl | apply TL.ret | apply TL.skip | apply TL.nil | apply loopK.exit rfl | apply loopK.ret | apply loopK.exitOut rfl))
      exact loopK.normal ⟨k + 1, _, hlt, by omega, LeR (sg [(3000, 80)]) (by rw [hy, List.length_append]; exact LeSA) (by rw [hy]; exact LeA)⟩
    by_cases z2 : b3 % 8 = 2
    · rw [arcOf, if_pos z2, if_neg z0, if_neg z1] at hy
      (repeat (first | apply TL.seq | ((first | apply TL.pl | apply TL.dr _ (by kernel_rfl)); (repeat (first | (apply RX.kN; refine RX.x OpA rfl ?_) | (apply RX.kG; first | refine RX.y rfl rfl rfl GdA OpA ?_ | refine RX.n rfl rfl rfl GdA rfl rfl ?_ | refine RX.nU rfl rfl rfl rfl rfl ?_ | refine RX.nS rfl rfl rfl GdA rfl ?_))); (try apply RX.nil _ (by kernel_rfl))) | (apply TL.kC; first | refine TL.condT rfl DecT ?_ | refine TL.condF rfl DecF ?_ | refine TL.condT rfl BoT ?_ | refine TL.condF rfl BoF ?_) | apply TL.block | apply TL.endB | apply TL.exit rfl | apply TL.exitOut rfl | apply TL.ret | apply TL.skip | apply TL.nil | apply loopK.exit rfl | apply loopK.ret | apply loopK.exitOut rfl))
      exact loopK.normal ⟨k + 1, _, hlt, by omega, LeR (sg [(3000, 80)]) (by rw [hy, List.length_append]; exact LeSA) (by rw [hy]; exact LeA)⟩
    · rw [arcOf, if_neg z0, if_neg z1, if_neg z2] at hy
      (repeat (first | apply TL.seq | ((first | apply TL.pl | apply TL.dr _ (by kernel_rfl)); (repeat (first | (apply RX.kN; refine RX.x OpA rfl ?_) | (apply RX.kG; first | refine RX.y rfl rfl rfl GdA OpA ?_ | refine RX.n rfl rfl rfl GdA rfl rfl ?_ | refine RX.nU rfl rfl rfl rfl rfl ?_ | refine RX.nS rfl rfl rfl GdA rfl ?_))); (try apply RX.nil _ (by kernel_rfl))) | (apply TL.kC; first | refine TL.condT rfl DecT ?_ | refine TL.condF rfl DecF ?_ | refine TL.condT rfl BoT ?_ | refine TL.condF rfl BoF ?_) | apply TL.block | apply TL.endB | apply TL.exit rfl | apply TL.exitOut rfl | apply TL.ret | apply TL.skip | apply TL.nil | apply loopK.exit rfl | apply loopK.ret | apply loopK.exitOut rfl))
      exact loopK.normal ⟨k + 1, _, hlt, by omega, LeR (sg [(3000, 80)]) (by rw [hy, List.length_append]; exact LeSA) (by rw [hy]; exact LeA)⟩
  · have hkq : k = arcsQ c := by omega
    subst hkq
    rw [show arcsTo c n (arcsQ c) = arcsN c n from rfl]
    by_cases h4 : 4 * arcsQ c + 3 < c.length
    · (repeat (first | apply TL.seq | ((first | apply TL.pl | apply TL.dr _ (by kernel_rfl)); (repeat (first | (apply RX.kN; refine RX.x OpA rfl ?_) | (apply RX.kG; first | refine RX.y rfl rfl rfl GdA OpA ?_ | refine RX.n rfl rfl rfl GdA rfl rfl ?_ | refine RX.nU rfl rfl rfl rfl rfl ?_ | refine RX.nS rfl rfl rfl GdA rfl ?_))); (try apply RX.nil _ (by kernel_rfl))) | (apply TL.kC; first | refine TL.condT rfl DecT ?_ | refine TL.condF rfl DecF ?_ | refine TL.condT rfl BoT ?_ | refine TL.condF rfl BoF ?_) | apply TL.block | apply TL.endB | apply TL.exit rfl | apply TL.exitOut rfl | apply TL.ret | apply TL.skip | apply TL.nil | apply loopK.exit rfl | apply loopK.ret | apply loopK.exitOut rfl))
      exact retK.one (sg [(2000, 3000)]) rfl LeA
    · (repeat (first | apply TL.seq | ((first | apply TL.pl | apply TL.dr _ (by kernel_rfl)); (repeat (first | (apply RX.kN; refine RX.x OpA rfl ?_) | (apply RX.kG; first | refine RX.y rfl rfl rfl GdA OpA ?_ | refine RX.n rfl rfl rfl GdA rfl rfl ?_ | refine RX.nU rfl rfl rfl rfl rfl ?_ | refine RX.nS rfl rfl rfl GdA rfl ?_))); (try apply RX.nil _ (by kernel_rfl))) | (apply TL.kC; first | refine TL.condT rfl DecT ?_ | refine TL.condF rfl DecF ?_ | refine TL.condT rfl BoT ?_ | refine TL.condF rfl BoF ?_) | apply TL.block | apply TL.endB | apply TL.exit rfl | apply TL.exitOut rfl | apply TL.ret | apply TL.skip | apply TL.nil | apply loopK.exit rfl | apply loopK.ret | apply loopK.exitOut rfl))
      exact retK.one (sg [(2000, 3000)]) rfl LeA
/-- Some marks, as choices say. -/
def marksTo (c : List Nat) (k : Nat) : List Bool := (List.range k).map fun i => decide (((c.getD i 0 : Nat) : Int) % 3 = 0)
def marksN (c : List Nat) (m : Nat) : List Bool := marksTo c (min m c.length)
theorem marksTo_len (c : List Nat) (k : Nat) : (marksTo c k).length = k := by simp [marksTo]
theorem marksTo_step (c : List Nat) (k b : Nat) (h : c[k]? = some b) : marksTo c (k + 1) = marksTo c k ++ [decide ((b : Int) % 3 = 0)] := by
  unfold marksTo
  rw [List.range_succ, List.map_append, List.map_cons, List.map_nil, getD_at h]
theorem marks_s (c : List Nat) (m : Nat) (hm9 : m ≤ 1000000) (hc : ∀ x ∈ c, x < 256) (h1 : c.length ≤ 9223372036854775807) : Spec Try.prog 25 [.a 1000 c.length, iv m] [(1000, .ro eByt c)] (.a 2000 (marksN c m).length) [(2000, .own 4 eBool (marksN c m))] := by
  refine Spec.mk [] Try.call25 Try.func25 Try.ntmps25 Try.results25 rfl (by kernel_rfl) (by kernel_rfl) ?_
  (repeat (first | apply TL.seq | ((first | apply TL.pl | apply TL.dr _ (by kernel_rfl)); (repeat (first | (apply RX.kN; refine RX.x OpA rfl ?_) | (apply RX.kG; first | refine RX.y rfl rfl rfl GdA OpA ?_ | refine RX.n rfl rfl rfl GdA rfl rfl ?_ | refine RX.nU rfl rfl rfl rfl rfl ?_ | refine RX.nS rfl rfl rfl GdA rfl ?_))); (try apply RX.nil _ (by kernel_rfl))) | (apply TL.kC; first | refine TL.condT rfl DecT ?_ | refine TL.condF rfl DecF ?_ | refine TL.condT rfl BoT ?_ | refine TL.condF rfl BoF ?_) | apply TL.block | apply TL.endB | apply TL.exit rfl | apply TL.exitOut rfl | apply TL.ret | apply TL.skip | apply TL.nil | apply loopK.exit rfl | apply loopK.ret | apply loopK.exitOut rfl))
  refine TL.viewNil 5 3000 4 eBool rfl rfl rfl ?_
  refine TL.loop (X := Nat) (fun k => ⟨[(0, .a 1000 c.length), (1, iv m), (5, .a 3000 (marksTo c k).length), (6, iv k)], [(1000, .ro eByt c), (3000, .own 4 eBool (marksTo c k))]⟩) (fun k => k ≤ m ∧ k ≤ c.length) (fun k => m - k) 0 (by omega) LeI ?_
  rintro k ⟨hk, hk2⟩
  have hkl := marksTo_len c k
  have fin : ¬ (k < m ∧ k < c.length) → marksTo c k = marksN c m := fun h => by rw [show k = min m c.length by omega]; rfl
  by_cases hm : k < m
  · by_cases hl : k < c.length
    · obtain ⟨b, e, f⟩ := byte_at hc hl
      have hy := marksTo_step c k b e
      (repeat (first | apply TL.seq | ((first | apply TL.pl | apply TL.dr _ (by kernel_rfl)); (repeat (first | (apply RX.kN; refine RX.x OpA rfl ?_) | (apply RX.kG; first | refine RX.y rfl rfl rfl GdA OpA ?_ | refine RX.n rfl rfl rfl GdA rfl rfl ?_ | refine RX.nU rfl rfl rfl rfl rfl ?_ | refine RX.nS rfl rfl rfl GdA rfl ?_))); (try apply RX.nil _ (by kernel_rfl))) | (apply TL.kC; first | refine TL.condT rfl DecT ?_ | refine TL.condF rfl DecF ?_ | refine TL.condT rfl BoT ?_ | refine TL.condF rfl BoF ?_) | apply TL.block | apply TL.endB | apply TL.exit rfl | apply TL.exitOut rfl | apply TL.ret | apply TL.skip | apply TL.nil | apply loopK.exit rfl | apply loopK.ret | apply loopK.exitOut rfl))
      exact loopK.normal ⟨k + 1, _, ⟨hm, hl⟩, by omega, LeR (sg [(3000, 26)]) (by rw [hy, List.length_append]; exact LeSA) (by rw [hy]; exact LeA)⟩
    · rw [fin (fun h => hl h.2)]
      (repeat (first | apply TL.seq | ((first | apply TL.pl | apply TL.dr _ (by kernel_rfl)); (repeat (first | (apply RX.kN; refine RX.x OpA rfl ?_) | (apply RX.kG; first | refine RX.y rfl rfl rfl GdA OpA ?_ | refine RX.n rfl rfl rfl GdA rfl rfl ?_ | refine RX.nU rfl rfl rfl rfl rfl ?_ | refine RX.nS rfl rfl rfl GdA rfl ?_))); (try apply RX.nil _ (by kernel_rfl))) | (apply TL.kC; first | refine TL.condT rfl DecT ?_ | refine TL.condF rfl DecF ?_ | refine TL.condT rfl BoT ?_ | refine TL.condF rfl BoF ?_) | apply TL.block | apply TL.endB | apply TL.exit rfl | apply TL.exitOut rfl | apply TL.ret | apply TL.skip | apply TL.nil | apply loopK.exit rfl | apply loopK.ret | apply loopK.exitOut rfl))
      exact retK.one (sg [(2000, 3000)]) rfl LeA
  · rw [fin (fun h => hm h.1)]
    (repeat (first | apply TL.seq | ((first | apply TL.pl | apply TL.dr _ (by kernel_rfl)); (repeat (first | (apply RX.kN; refine RX.x OpA rfl ?_) | (apply RX.kG; first | refine RX.y rfl rfl rfl GdA OpA ?_ | refine RX.n rfl rfl rfl GdA rfl rfl ?_ | refine RX.nU rfl rfl rfl rfl rfl ?_ | refine RX.nS rfl rfl rfl GdA rfl ?_))); (try apply RX.nil _ (by kernel_rfl))) | (apply TL.kC; first | refine TL.condT rfl DecT ?_ | refine TL.condF rfl DecF ?_ | refine TL.condT rfl BoT ?_ | refine TL.condF rfl BoF ?_) | apply TL.block | apply TL.endB | apply TL.exit rfl | apply TL.exitOut rfl | apply TL.ret | apply TL.skip | apply TL.nil | apply loopK.exit rfl | apply loopK.ret | apply loopK.exitOut rfl))
    exact retK.one (sg [(2000, 3000)]) rfl LeA
theorem size_s (s : List Int) (l : List PArc) (h1 : s.length ≤ 20000000000000) (h2 : l.length ≤ 20000000000000) : Spec Try.prog 21 [vI s l] (hI s l) (iv ((s.length : Int) + 2 * l.length)) [] := by
  refine Spec.mk [] Try.call21 Try.func21 Try.ntmps21 Try.results21 rfl (by kernel_rfl) (by kernel_rfl) ?_
  (repeat (first | apply TL.seq | ((first | apply TL.pl | apply TL.dr _ (by kernel_rfl)); (repeat (first | (apply RX.kN; refine RX.x OpA rfl ?_) | (apply RX.kG; first | refine RX.y rfl rfl rfl GdA OpA ?_ | refine RX.n rfl rfl rfl GdA rfl rfl ?_ | refine RX.nU rfl rfl rfl rfl rfl ?_ | refine RX.nS rfl rfl rfl GdA rfl ?_))); (try apply RX.nil _ (by kernel_rfl))) | (apply TL.kC; first | refine TL.condT rfl DecT ?_ | refine TL.condF rfl DecF ?_ | refine TL.condT rfl BoT ?_ | refine TL.condF rfl BoF ?_) | apply TL.block | apply TL.endB | apply TL.exit rfl | apply TL.exitOut rfl | apply TL.ret | apply TL.skip | apply TL.nil | apply loopK.exit rfl | apply loopK.ret | apply loopK.exitOut rfl))
  refine retK.v (vInt ?_)
  omega
end Go.Proofs.Ytiboffhdabeiiaa
